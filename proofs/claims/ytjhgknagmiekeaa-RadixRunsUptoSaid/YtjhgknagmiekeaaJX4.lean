/- joined: TP8 TP9 TP10 TP14 TP15 TP16 TP17 Q2 TR20 TR21 TR22 TR23 TR24 TR25 -/
import Derived.Test.YtjhgknagmiekeaaJX3
import Derived.Laws.Concat
import Derived.Shelf.SlicesE.Delete
import Derived.Lib.OwnBridge
import Derived.Deep.RegionLaw
set_option linter.unusedVariables false
set_option linter.unusedSimpArgs false
namespace Go.Proofs.Ytjhgknagmiekeaa.T
def joinN (n k : Nd) (b : Nat) : Nd := .mk b (n.label ++ k.label) k.leaf k.kids k.mark
def shapedN (n : Nd) (b : Nat) : Option Nd :=
  if n.leaf.isSome = true ∨ 1 < n.kids.length then some n
  else match n.kids with
    | [] => none
    | k :: _ => some (joinN n k b)
def putKid (ks : List Nd) (i : Nat) : Option Nd → List Nd
  | some s => ks.set i s
  | none => ks.eraseIdx i
def delN (n : Nd) (rest : ByteArray) (ns : Sup) : Option (Nd × Lf) :=
  if h0 : rest.size = 0 then n.leaf.map fun l => (.mk (ns 0).1 n.label none n.kids (ns 0).2, l)
  else match downN n rest with
    | none => none
    | some k => if h : 0 < k.label.size then
        (delN k (rest.extract k.label.size rest.size) (fun j => ns (j + 2))).map fun x =>
          (.mk (ns 0).1 n.label n.leaf (putKid n.kids (pos (n.kids.map fb) (fbS rest)) (shapedN x.1 (ns 1).1)) (ns 0).2, x.2)
      else none
termination_by rest.size
decreasing_by
  simp only [ByteArray.size_extract]
  omega
theorem L_append (a b : ByteArray) : L (a ++ b) = L a ++ L b := by simp [L, ByteArray.data_append]
theorem kidT_erase (ks : List Nd) (i : Nat) (x : Nat) (hi : i < ks.length) (hp : (ks.map fb).Pairwise (· < ·)) : kidT (ks.eraseIdx i) x = if fb ks[i] = x then none else kidT ks x := by
  have e2 : ks = ks.take i ++ ks[i] :: ks.drop (i + 1) := by
    rw [← List.drop_eq_getElem_cons hi, List.take_append_drop]
  have hlo : ∀ k ∈ ks.take i, fb k < fb ks[i] := fun k hk => by
    obtain ⟨j, hj, ej⟩ := List.getElem_of_mem hk
    rw [List.length_take] at hj
    have h2 := List.pairwise_iff_getElem.1 hp j i (by rw [List.length_map]; omega) (by rw [List.length_map]; exact hi) (by omega)
    rw [List.getElem_map, List.getElem_map] at h2
    rw [List.getElem_take] at ej
    rw [← ej]
    exact h2
  have hhi : ∀ k ∈ ks.drop (i + 1), fb ks[i] < fb k := fun k hk => by
    obtain ⟨j, hj, ej⟩ := List.getElem_of_mem hk
    rw [List.length_drop] at hj
    have h2 := List.pairwise_iff_getElem.1 hp i (i + 1 + j) (by rw [List.length_map]; exact hi) (by rw [List.length_map]; omega) (by omega)
    rw [List.getElem_map, List.getElem_map] at h2
    rw [List.getElem_drop] at ej
    rw [← ej]
    exact h2
  unfold kidT
  rw [List.eraseIdx_eq_take_drop_succ, List.find?_append]
  by_cases e : fb ks[i] = x
  · rw [if_pos e]
    have h1 : (ks.take i).find? (fun k => fb k == x) = none := by
      rw [List.find?_eq_none]
      intro k hk
      have := hlo k hk
      simp; omega
    have h2 : (ks.drop (i + 1)).find? (fun k => fb k == x) = none := by
      rw [List.find?_eq_none]
      intro k hk
      have := hhi k hk
      simp; omega
    rw [h1, h2]; rfl
  · rw [if_neg e]
    conv => rhs; rw [e2]
    rw [List.find?_append, List.find?_cons_of_neg (by simp [e])]
theorem prefix_split {a b r : List UInt8} : (a ++ b) <+: r ↔ a <+: r ∧ b <+: r.drop a.length := by
  constructor
  · rintro ⟨t, ht⟩
    rw [← ht, List.append_assoc]
    exact ⟨List.prefix_append _ _, by rw [List.drop_left]; exact List.prefix_append _ _⟩
  · rintro ⟨⟨s, hs⟩, ⟨t, ht⟩⟩
    rw [← hs, List.drop_left] at ht
    exact ⟨t, by rw [List.append_assoc, ht, hs]⟩
theorem findT_only {n k : Nd} (hl : n.leaf = none) (hk : n.kids = [k]) (r : List UInt8) (hpos : 0 < k.label.size) : findT n r = below r k := by
  by_cases hr : r = []
  · subst hr
    rw [findT_nil, hl]
    unfold below
    rw [if_neg]
    rintro ⟨_, h⟩
    exact L_ne hpos (List.prefix_nil.1 h)
  · rw [findT_eq _ _ hr, hk]
    unfold kidT
    by_cases e : fb k = hd r
    · rw [List.find?_cons_of_pos (by simp [e])]; rfl
    · rw [List.find?_cons_of_neg (by simp [e])]
      simp only [List.find?_nil, Option.bind_none]
      unfold below
      rw [if_neg]
      rintro ⟨_, t, ht⟩
      apply e
      rw [fb_hd, ← ht, hd_append (L_ne hpos)]
theorem findT_join (n k : Nd) (b : Nat) (r : List UInt8) : findT (joinN n k b) r = findT k r := by
  by_cases hr : r = []
  · subst hr; rw [findT_nil, findT_nil]; rfl
  · rw [findT_eq _ _ hr, findT_eq _ _ hr]; rfl
theorem shaped_cases (n : Nd) (b : Nat) : (shapedN n b = some n ∧ (n.leaf.isSome = true ∨ 1 < n.kids.length)) ∨ (n.leaf = none ∧ n.kids = [] ∧ shapedN n b = none) ∨ ∃ k, n.leaf = none ∧ n.kids = [k] ∧ shapedN n b = some (joinN n k b) := by
  unfold shapedN
  by_cases h : n.leaf.isSome = true ∨ 1 < n.kids.length
  · rw [if_pos h]; exact .inl ⟨rfl, h⟩
  · rw [if_neg h]
    have h1 : n.leaf = none := by cases e : n.leaf with | none => rfl | some l => exact absurd (.inl (by rw [e]; rfl)) h
    cases e : n.kids with
    | nil => exact .inr (.inl ⟨h1, rfl, rfl⟩)
    | cons k ks =>
      cases ks with
      | nil => exact .inr (.inr ⟨k, h1, rfl, rfl⟩)
      | cons k2 ks => exact absurd (.inr (by rw [e]; simp)) h
theorem shaped_some {n s : Nd} {b : Nat} (ho : Ok n) (hpos : 0 < n.label.size) (h : shapedN n b = some s) : fb s = fb n ∧ 0 < s.label.size ∧ Ok s ∧ ∀ r, below r s = below r n := by
  rcases shaped_cases n b with ⟨e, _⟩ | ⟨_, _, e⟩ | ⟨k, hl, hk, e⟩
  · rw [e] at h; cases h; exact ⟨rfl, hpos, ho, fun _ => rfl⟩
  · rw [e] at h; cases h
  · rw [e] at h; cases h
    have hkm : k ∈ n.kids := by rw [hk]; simp
    have hkp := ho.parts.2.1 k hkm
    have hok := ho.parts.2.2.get k hkm
    have hsz : (n.label ++ k.label).size = n.label.size + k.label.size := by rw [ByteArray.size_append]
    refine ⟨?_, by show 0 < (n.label ++ k.label).size; omega, Ok.mk' hok.parts.1 hok.parts.2.1 (fun x hx => hok.parts.2.2.get x hx), fun r => ?_⟩
    · rw [fb_hd, fb_hd]
      show hd (L (n.label ++ k.label)) = _
      rw [L_append, hd_append (L_ne hpos)]
    · unfold below
      have e1 : (joinN n k b).label = n.label ++ k.label := rfl
      rw [e1, L_append, hsz]
      have e2 : r.drop (n.label.size + k.label.size) = (r.drop n.label.size).drop k.label.size := by rw [List.drop_drop]
      rw [e2]
      by_cases h1 : L n.label <+: r
      · rw [if_pos (show 0 < n.label.size ∧ L n.label <+: r from ⟨hpos, h1⟩), findT_only hl hk _ hkp]
        unfold below
        have h2 : L n.label ++ L k.label <+: r ↔ L k.label <+: r.drop n.label.size := by
          rw [prefix_split, L_len]
          exact ⟨fun h => h.2, fun h => ⟨h1, h⟩⟩
        by_cases h3 : L k.label <+: r.drop n.label.size
        · rw [if_pos ⟨by omega, h2.2 h3⟩, if_pos ⟨hkp, h3⟩, findT_join]
        · rw [if_neg (fun h => h3 (h2.1 h.2)), if_neg (fun h => h3 h.2)]
      · rw [if_neg (fun h => h1 (prefix_split.1 h.2).1), if_neg (fun h => h1 h.2)]
theorem shaped_none {n : Nd} {b : Nat} (h : shapedN n b = none) (r : List UInt8) : findT n r = none := by
  rcases shaped_cases n b with ⟨e, _⟩ | ⟨hl, hk, _⟩ | ⟨k, _, _, e⟩
  · rw [e] at h; cases h
  · by_cases hr : r = []
    · subst hr; rw [findT_nil, hl]
    · rw [findT_eq _ _ hr, hk]; rfl
  · rw [e] at h; cases h
theorem fb_label {a b : Nd} (h : a.label = b.label) : fb a = fb b := by rw [fb_hd, fb_hd, h]
theorem del_find : ∀ (N : Nat) (rest : ByteArray), rest.size ≤ N → ∀ n, Ok n → ∀ ns : Sup,
    (findT n (L rest) = none → delN n rest ns = none) ∧ ∀ l, findT n (L rest) = some l → ∃ m, delN n rest ns = some (m, l) ∧ m.label = n.label ∧ Ok m ∧ ∀ r, findT m r = if r = L rest then none else findT n r := by
  intro N
  induction N with
  | zero =>
    intro rest hN n ho ns
    have e : L rest = [] := List.length_eq_zero_iff.1 (by rw [L_len]; omega)
    rw [delN, dif_pos (by omega), e, findT_nil]
    refine ⟨fun h => by rw [h]; rfl, fun l h => ⟨.mk (ns 0).1 n.label none n.kids (ns 0).2, by rw [h]; rfl, rfl, Ok.mk' ho.parts.1 ho.parts.2.1 (fun x hx => ho.parts.2.2.get x hx), fun r => ?_⟩⟩
    by_cases hr : r = []
    · rw [if_pos hr, hr, findT_nil]; rfl
    · rw [if_neg hr, findT_eq _ _ hr, findT_eq _ _ hr]; rfl
  | succ N ih =>
    intro rest hN n ho ns
    by_cases h0 : rest.size = 0
    · have e : L rest = [] := List.length_eq_zero_iff.1 (by rw [L_len]; omega)
      rw [delN, dif_pos h0, e, findT_nil]
      refine ⟨fun h => by rw [h]; rfl, fun l h => ⟨.mk (ns 0).1 n.label none n.kids (ns 0).2, by rw [h]; rfl, rfl, Ok.mk' ho.parts.1 ho.parts.2.1 (fun x hx => ho.parts.2.2.get x hx), fun r => ?_⟩⟩
      by_cases hr : r = []
      · rw [if_pos hr, hr, findT_nil]; rfl
      · rw [if_neg hr, findT_eq _ _ hr, findT_eq _ _ hr]; rfl
    · have hne : L rest ≠ [] := fun e => h0 (by rw [← L_len, e]; rfl)
      have hq := kidN_eq n ho rest
      have hdn := downN_eq n ho rest h0
      rw [delN, dif_neg h0, findT_eq _ _ hne]
      cases e : kidT n.kids (hd (L rest)) with
      | none =>
        rw [e] at hdn
        have hdn' : downN n rest = none := hdn
        rw [hdn']
        exact ⟨fun _ => rfl, fun l h => by cases h⟩
      | some k =>
        rw [e] at hdn hq
        simp only [Option.bind_some] at hdn ⊢
        obtain ⟨hh, hlt, ek⟩ := kidN_some hq
        have hkm : k ∈ n.kids := (kidT_some e).1
        have hfk := (kidT_some e).2
        have hpos := ho.parts.2.1 k hkm
        by_cases hp : L k.label <+: L rest
        · rw [if_pos hp] at hdn
          rw [hdn]
          unfold below
          rw [if_pos ⟨hpos, hp⟩]
          simp only []
          rw [dif_pos hpos]
          have hI := ih (rest.extract k.label.size rest.size) (by simp only [ByteArray.size_extract]; omega) k (ho.parts.2.2.get k hkm) (fun j => ns (j + 2))
          rw [L_tail] at hI
          refine ⟨fun h => by rw [hI.1 h]; rfl, fun l h => ?_⟩
          obtain ⟨low, h1, h2, h3, h4⟩ := hI.2 l h
          rw [h1]
          refine ⟨_, rfl, rfl, ?_, fun r => ?_⟩
          · -- in order
            have hlow : 0 < low.label.size := by rw [h2]; exact hpos
            cases hs : shapedN low (ns 1).1 with
            | none =>
              refine Ok.mk' ?_ (fun x hx => ho.parts.2.1 x (List.mem_of_mem_eraseIdx hx)) (fun x hx => ho.parts.2.2.get x (List.mem_of_mem_eraseIdx hx))
              exact ho.parts.1.sublist ((List.eraseIdx_sublist _ _).map fb)
            | some s =>
              obtain ⟨s1, s2, s3, s4⟩ := shaped_some h3 hlow hs
              refine Ok.mk' ?_ (fun x hx => ?_) (fun x hx => ?_)
              · show ((n.kids.set _ s).map fb).Pairwise (· < ·)
                rw [map_set_same _ _ _ hlt (by rw [s1, fb_label h2, ek])]; exact ho.parts.1
              · rcases List.mem_or_eq_of_mem_set hx with e | e
                · exact ho.parts.2.1 x e
                · rw [e]; exact s2
              · rcases List.mem_or_eq_of_mem_set hx with e | e
                · exact ho.parts.2.2.get x e
                · rw [e]; exact s3
          · -- what it holds
            by_cases hr : r = []
            · rw [if_neg (fun e => hne (by rw [← e, hr])), hr, findT_nil, findT_nil]; rfl
            · have hlow : 0 < low.label.size := by rw [h2]; exact hpos
              have hbl : below r low = if r = L rest then none else below r k := by
                unfold below
                rw [h2]
                by_cases hpr : 0 < k.label.size ∧ L k.label <+: r
                · rw [if_pos hpr, if_pos hpr, h4]
                  have hiff : r.drop k.label.size = (L rest).drop k.label.size ↔ r = L rest := by
                    obtain ⟨a, ha⟩ := hpr.2
                    obtain ⟨c, hc⟩ := hp
                    have hl : (L k.label).length = k.label.size := L_len _
                    rw [← ha, ← hc, ← hl, List.drop_left, List.drop_left]
                    exact ⟨fun e => by rw [e], fun e => List.append_cancel_left e⟩
                  by_cases e2 : r = L rest
                  · rw [if_pos e2, if_pos (hiff.2 e2)]
                  · rw [if_neg e2, if_neg (fun h => e2 (hiff.1 h))]
                · rw [if_neg hpr, if_neg hpr]; split <;> rfl
              rw [findT_eq _ _ hr, findT_eq n _ hr]
              show (kidT (putKid n.kids _ _) (hd r)).bind (below r) = _
              by_cases hx : fb k = hd r
              · have hkr : kidT n.kids (hd r) = some k := by rw [← hx, hfk]; exact e
                rw [hkr]
                simp only [Option.bind_some]
                cases hs : shapedN low (ns 1).1 with
                | none =>
                  show (kidT (n.kids.eraseIdx _) (hd r)).bind (below r) = _
                  rw [kidT_erase n.kids _ _ hlt ho.parts.1, ek, if_pos hx]
                  have hb0 : below r low = none := by unfold below; split; exact shaped_none hs _; rfl
                  rw [hb0] at hbl
                  exact hbl
                | some s =>
                  obtain ⟨s1, s2, s3, s4⟩ := shaped_some h3 hlow hs
                  show (kidT (n.kids.set _ s) (hd r)).bind (below r) = _
                  rw [kidT_set n.kids _ s (hd r) hlt (by rw [s1, fb_label h2, ek]) ho.parts.1, if_pos (by rw [s1, fb_label h2]; exact hx)]
                  simp only [Option.bind_some]
                  rw [s4, hbl]
              · have hne2 : r ≠ L rest := fun e => hx (by rw [e]; exact hfk)
                rw [if_neg hne2]
                cases hs : shapedN low (ns 1).1 with
                | none =>
                  show (kidT (n.kids.eraseIdx _) (hd r)).bind (below r) = _
                  rw [kidT_erase n.kids _ _ hlt ho.parts.1, ek, if_neg hx]
                | some s =>
                  obtain ⟨s1, s2, s3, s4⟩ := shaped_some h3 hlow hs
                  show (kidT (n.kids.set _ s) (hd r)).bind (below r) = _
                  rw [kidT_set n.kids _ s (hd r) hlt (by rw [s1, fb_label h2, ek]) ho.parts.1, if_neg (by rw [s1, fb_label h2]; exact hx)]
        · rw [if_neg hp] at hdn
          rw [hdn]
          unfold below
          rw [if_neg (fun h => hp h.2)]
          exact ⟨fun _ => rfl, fun l h => by cases h⟩
end Go.Proofs.Ytjhgknagmiekeaa.T
set_option linter.unusedVariables false
set_option linter.unusedSimpArgs false
namespace Go.Proofs.Ytjhgknagmiekeaa.T
mutual
/-- every way down from n has at most B letters -/
def Fits : Nd → Nat → Prop
  | .mk _ label _ kids _, B => label.size ≤ B ∧ Fitss kids (B - label.size)
def Fitss : List Nd → Nat → Prop
  | [], _ => True
  | n :: r, B => Fits n B ∧ Fitss r B
end
theorem Fits.parts {n : Nd} {B : Nat} (h : Fits n B) : n.label.size ≤ B ∧ Fitss n.kids (B - n.label.size) := by
  cases n; unfold Fits at h; exact h
theorem Fits.mk' {b : Nat} {label : ByteArray} {leaf : Option Lf} {kids : List Nd} {m : Value} {B : Nat} (h : label.size ≤ B) (hk : Fitss kids (B - label.size)) : Fits (.mk b label leaf kids m) B := by
  unfold Fits; exact ⟨h, hk⟩
theorem Fitss.mem {B : Nat} : ∀ {ks : List Nd}, Fitss ks B → ∀ k ∈ ks, Fits k B
  | n :: r, h, k, hk => by
    unfold Fitss at h
    rcases List.mem_cons.1 hk with e | e
    · rw [e]; exact h.1
    · exact Fitss.mem h.2 k e
theorem Fitss.of {B : Nat} : ∀ {ks : List Nd}, (∀ k ∈ ks, Fits k B) → Fitss ks B
  | [], _ => by unfold Fitss; trivial
  | n :: r, h => by unfold Fitss; exact ⟨h n (by simp), Fitss.of (fun k hk => h k (by simp [hk]))⟩
mutual
theorem Fits.mono {B B' : Nat} (hb : B ≤ B') : ∀ n : Nd, Fits n B → Fits n B'
  | .mk b label leaf kids mark, h => by
    have h2 := h.parts
    exact Fits.mk' (Nat.le_trans h2.1 hb) (Fitss.mono (Nat.sub_le_sub_right hb _) kids h2.2)
theorem Fitss.mono {B B' : Nat} (hb : B ≤ B') : ∀ ks : List Nd, Fitss ks B → Fitss ks B'
  | [], _ => by unfold Fitss; trivial
  | n :: r, h => by unfold Fitss at h ⊢; exact ⟨Fits.mono hb n h.1, Fitss.mono hb r h.2⟩
end
mutual
theorem Fits.sm {B : Nat} (hb : B < 4000000000000) : ∀ n : Nd, Fits n B → Sm n
  | .mk b label leaf kids mark, h => by
    have h2 := h.parts
    have h3 : label.size ≤ B := h2.1
    unfold Sm
    exact ⟨by omega, Fitss.sm (B := B - label.size) (by omega) kids h2.2⟩
theorem Fitss.sm {B : Nat} (hb : B < 4000000000000) : ∀ ks : List Nd, Fitss ks B → Sms ks
  | [], _ => by unfold Sms; trivial
  | n :: r, h => by unfold Fitss at h; unfold Sms; exact ⟨Fits.sm hb n h.1, Fitss.sm hb r h.2⟩
end
theorem fits_tip (s : ByteArray) (l : Lf) (a : Nat × Value) (B : Nat) (h : s.size ≤ B) : Fits (tipN s l a) B := Fits.mk' h (by unfold Fitss; trivial)
theorem fits_low (k : Nd) (p b B : Nat) (hp : p ≤ k.label.size) (h : Fits k B) : Fits (lowN k p b) (B - p) := by
  have h2 := h.parts
  have e : (k.label.extract p k.label.size).size = k.label.size - p := by simp only [ByteArray.size_extract]; omega
  refine Fits.mk' (by rw [e]; omega) ?_
  rw [e]
  have e2 : B - p - (k.label.size - p) = B - k.label.size := by omega
  rw [e2]
  exact h2.2
theorem fits_ins : ∀ (N : Nat) (rest : ByteArray), rest.size ≤ N → ∀ (n : Nd) (B : Nat), n.label.size + rest.size ≤ B → Fits n B → ∀ (l : Lf) (ns : Sup), Fits (insN n rest l ns) B := by
  intro N
  induction N with
  | zero =>
    intro rest hN n B hb hf l ns
    rw [insN, dif_pos (by omega)]
    exact Fits.mk' hf.parts.1 hf.parts.2
  | succ N ih =>
    intro rest hN n B hb hf l ns
    rw [insN]
    split
    · exact Fits.mk' hf.parts.1 hf.parts.2
    · split
      · refine Fits.mk' hf.parts.1 (Fitss.of fun k hk => ?_)
        rcases mem_insAt hk with e | e
        · rw [e]; exact fits_tip _ _ _ _ (by omega)
        · exact hf.parts.2.mem k e
      · rename_i k e
        obtain ⟨hh, hlt, ek⟩ := kidN_some e
        have hkm : k ∈ n.kids := by rw [← ek]; exact List.getElem_mem _
        have hfk := hf.parts.2.mem k hkm
        have hle := comB_le k.label rest
        split
        · rename_i hp
          refine Fits.mk' hf.parts.1 (Fitss.of fun k' hk' => ?_)
          rcases List.mem_or_eq_of_mem_set hk' with e | e
          · exact hf.parts.2.mem k' e
          · rw [e]
            refine ih _ (by simp only [ByteArray.size_extract]; omega) k _ ?_ hfk l _
            simp only [ByteArray.size_extract]
            omega
        · refine Fits.mk' hf.parts.1 (Fitss.of fun k' hk' => ?_)
          rcases List.mem_or_eq_of_mem_set hk' with e | e
          · exact hf.parts.2.mem k' e
          · rw [e]
            have hlow := fits_low k (comB k.label rest) (ns 2).1 _ hle.1 hfk
            have es : (rest.extract 0 (comB k.label rest)).size = comB k.label rest := by simp only [ByteArray.size_extract]; omega
            unfold splitN
            split
            · refine Fits.mk' (by rw [es]; omega) (Fitss.of fun k2 hk2 => ?_)
              rw [List.mem_singleton] at hk2
              rw [hk2, es]; exact hlow
            · refine Fits.mk' (by rw [es]; omega) (Fitss.of fun k2 hk2 => ?_)
              rw [es]
              rcases mem_insAt hk2 with e | e
              · rw [e]; exact fits_tip _ _ _ _ (by simp only [ByteArray.size_extract]; omega)
              · rw [List.mem_singleton] at e; rw [e]; exact hlow
theorem delN_some {n m : Nd} {rest : ByteArray} {ns : Sup} {l : Lf} (h : delN n rest ns = some (m, l)) :
    (rest.size = 0 ∧ n.leaf = some l ∧ m = .mk (ns 0).1 n.label none n.kids (ns 0).2) ∨
    (rest.size ≠ 0 ∧ ∃ k low, downN n rest = some k ∧ 0 < k.label.size ∧ delN k (rest.extract k.label.size rest.size) (fun j => ns (j + 2)) = some (low, l) ∧
      m = .mk (ns 0).1 n.label n.leaf (putKid n.kids (pos (n.kids.map fb) (fbS rest)) (shapedN low (ns 1).1)) (ns 0).2) := by
  rw [delN] at h
  by_cases h0 : rest.size = 0
  · rw [dif_pos h0] at h
    cases e : n.leaf with
    | none => rw [e] at h; cases h
    | some l' => rw [e] at h; cases h; exact .inl ⟨h0, rfl, rfl⟩
  · rw [dif_neg h0] at h
    cases e : downN n rest with
    | none => rw [e] at h; cases h
    | some k =>
      rw [e] at h
      simp only [] at h
      by_cases hp : 0 < k.label.size
      · rw [dif_pos hp] at h
        cases e2 : delN k (rest.extract k.label.size rest.size) (fun j => ns (j + 2)) with
        | none => rw [e2] at h; cases h
        | some x => rw [e2] at h; cases h; exact .inr ⟨h0, k, x.1, rfl, hp, e2, rfl⟩
      · rw [dif_neg hp] at h; cases h
theorem mem_putKid {ks : List Nd} {i : Nat} {o : Option Nd} {x : Nd} (h : x ∈ putKid ks i o) : x ∈ ks ∨ o = some x := by
  cases o with
  | none => exact .inl (List.mem_of_mem_eraseIdx h)
  | some s =>
    rcases List.mem_or_eq_of_mem_set h with e | e
    · exact .inl e
    · exact .inr (by rw [e])
theorem fits_shaped {n s : Nd} {b B : Nat} (hf : Fits n B) (h : shapedN n b = some s) : Fits s B := by
  rcases shaped_cases n b with ⟨e, _⟩ | ⟨_, _, e⟩ | ⟨k, hl, hk, e⟩
  · rw [e] at h; cases h; exact hf
  · rw [e] at h; cases h
  · rw [e] at h; cases h
    have h2 := hf.parts
    have hfk := h2.2.mem k (by rw [hk]; simp)
    have h3 := hfk.parts
    refine Fits.mk' ?_ ?_
    · rw [ByteArray.size_append]; omega
    · rw [ByteArray.size_append, Nat.sub_add_eq]; exact h3.2
theorem fits_del : ∀ (N : Nat) (rest : ByteArray), rest.size ≤ N → ∀ (n m : Nd) (B : Nat) (ns : Sup) (l : Lf), Fits n B → delN n rest ns = some (m, l) → Fits m B := by
  intro N
  induction N with
  | zero =>
    intro rest hN n m B ns l hf h
    rcases delN_some h with ⟨h0, h1, h2⟩ | ⟨h0, _⟩
    · rw [h2]; exact Fits.mk' hf.parts.1 hf.parts.2
    · omega
  | succ N ih =>
    intro rest hN n m B ns l hf h
    rcases delN_some h with ⟨h0, h1, h2⟩ | ⟨h0, k, low, hd, hp, hdel, h2⟩
    · rw [h2]; exact Fits.mk' hf.parts.1 hf.parts.2
    · rw [h2]
      have hkm := (downN_some hd).1
      have hfl := ih (rest.extract k.label.size rest.size) (by simp only [ByteArray.size_extract]; omega) k low _ _ l (hf.parts.2.mem k hkm) hdel
      refine Fits.mk' hf.parts.1 (Fitss.of fun x hx => ?_)
      rcases mem_putKid hx with e | e
      · exact hf.parts.2.mem x e
      · exact fits_shaped hfl e
def Full (n : Nd) : Prop := n.leaf.isSome = true ∨ 2 ≤ n.kids.length
mutual
/-- every node beneath n is full -/
def Br : Nd → Prop
  | .mk _ _ _ kids _ => Brs kids
def Brs : List Nd → Prop
  | [] => True
  | n :: r => (Full n ∧ Br n) ∧ Brs r
end
theorem Br.parts {n : Nd} (h : Br n) : Brs n.kids := by cases n; unfold Br at h; exact h
theorem Br.mk' {b : Nat} {label : ByteArray} {leaf : Option Lf} {kids : List Nd} {m : Value} (h : Brs kids) : Br (.mk b label leaf kids m) := by unfold Br; exact h
theorem Brs.mem : ∀ {ks : List Nd}, Brs ks → ∀ k ∈ ks, Full k ∧ Br k
  | n :: r, h, k, hk => by
    unfold Brs at h
    rcases List.mem_cons.1 hk with e | e
    · rw [e]; exact h.1
    · exact Brs.mem h.2 k e
theorem Brs.of : ∀ {ks : List Nd}, (∀ k ∈ ks, Full k ∧ Br k) → Brs ks
  | [], _ => by unfold Brs; trivial
  | n :: r, h => by unfold Brs; exact ⟨h n (by simp), Brs.of (fun k hk => h k (by simp [hk]))⟩
theorem full_ins (n : Nd) (rest : ByteArray) (l : Lf) (ns : Sup) (h : Full n) : Full (insN n rest l ns) := by
  unfold Full at h ⊢
  rw [insN]
  split
  · exact .inl rfl
  · split
    · refine h.imp id (fun h => ?_)
      show 2 ≤ (insAt _ _ n.kids).length
      unfold insAt
      rw [List.length_append, List.length_cons, List.length_take, List.length_drop]
      omega
    · split
      · refine h.imp id (fun h => ?_)
        show 2 ≤ (n.kids.set _ _).length
        rw [List.length_set]; exact h
      · refine h.imp id (fun h => ?_)
        show 2 ≤ (n.kids.set _ _).length
        rw [List.length_set]; exact h
theorem br_tip (s : ByteArray) (l : Lf) (a : Nat × Value) : Full (tipN s l a) ∧ Br (tipN s l a) := ⟨.inl rfl, Br.mk' (by unfold Brs; trivial)⟩
theorem br_ins : ∀ (N : Nat) (rest : ByteArray), rest.size ≤ N → ∀ (n : Nd), Br n → ∀ (l : Lf) (ns : Sup), Br (insN n rest l ns) := by
  intro N
  induction N with
  | zero =>
    intro rest hN n hb l ns
    rw [insN, dif_pos (by omega)]
    exact Br.mk' hb.parts
  | succ N ih =>
    intro rest hN n hb l ns
    rw [insN]
    split
    · exact Br.mk' hb.parts
    · split
      · refine Br.mk' (Brs.of fun k hk => ?_)
        rcases mem_insAt hk with e | e
        · rw [e]; exact br_tip _ _ _
        · exact hb.parts.mem k e
      · rename_i k e
        obtain ⟨hh, hlt, ek⟩ := kidN_some e
        have hkm : k ∈ n.kids := by rw [← ek]; exact List.getElem_mem _
        have hbk := hb.parts.mem k hkm
        split
        · refine Br.mk' (Brs.of fun k' hk' => ?_)
          rcases List.mem_or_eq_of_mem_set hk' with e | e
          · exact hb.parts.mem k' e
          · rw [e]
            exact ⟨full_ins k _ l _ hbk.1, ih _ (by simp only [ByteArray.size_extract]; omega) k hbk.2 l _⟩
        · refine Br.mk' (Brs.of fun k' hk' => ?_)
          rcases List.mem_or_eq_of_mem_set hk' with e | e
          · exact hb.parts.mem k' e
          · rw [e]
            have hlow : Full (lowN k (comB k.label rest) (ns 2).1) ∧ Br (lowN k (comB k.label rest) (ns 2).1) := ⟨hbk.1, Br.mk' hbk.2.parts⟩
            unfold splitN
            split
            · refine ⟨.inl rfl, Br.mk' (Brs.of fun k2 hk2 => ?_)⟩
              rw [List.mem_singleton] at hk2
              rw [hk2]; exact hlow
            · refine ⟨.inr ?_, Br.mk' (Brs.of fun k2 hk2 => ?_)⟩
              · show 2 ≤ (insAt _ _ [_]).length
                unfold insAt
                rw [List.length_append, List.length_cons, List.length_take, List.length_drop]
                simp only [List.length_singleton]
                omega
              · rcases mem_insAt hk2 with e | e
                · rw [e]; exact br_tip _ _ _
                · rw [List.mem_singleton] at e; rw [e]; exact hlow
theorem br_shaped {n s : Nd} {b : Nat} (hb : Br n) (h : shapedN n b = some s) : Full s ∧ Br s := by
  rcases shaped_cases n b with ⟨e, hf⟩ | ⟨_, _, e⟩ | ⟨k, hl, hk, e⟩
  · rw [e] at h; cases h; exact ⟨hf, hb⟩
  · rw [e] at h; cases h
  · rw [e] at h; cases h
    have h2 := hb.parts.mem k (by rw [hk]; simp)
    exact ⟨h2.1, Br.mk' h2.2.parts⟩
theorem br_del : ∀ (N : Nat) (rest : ByteArray), rest.size ≤ N → ∀ (n m : Nd) (ns : Sup) (l : Lf), Br n → delN n rest ns = some (m, l) → Br m := by
  intro N
  induction N with
  | zero =>
    intro rest hN n m ns l hf h
    rcases delN_some h with ⟨h0, h1, h2⟩ | ⟨h0, _⟩
    · rw [h2]; exact Br.mk' hf.parts
    · omega
  | succ N ih =>
    intro rest hN n m ns l hf h
    rcases delN_some h with ⟨h0, h1, h2⟩ | ⟨h0, k, low, hd, hp, hdel, h2⟩
    · rw [h2]; exact Br.mk' hf.parts
    · rw [h2]
      have hkm := (downN_some hd).1
      have hbl := ih (rest.extract k.label.size rest.size) (by simp only [ByteArray.size_extract]; omega) k low _ l (hf.parts.mem k hkm).2 hdel
      refine Br.mk' (Brs.of fun x hx => ?_)
      rcases mem_putKid hx with e | e
      · exact hf.parts.mem x e
      · exact br_shaped hbl e
structure Fine (root : Nd) : Prop extends Good root where
  fits : Fits root 3999999999999
  br : Br root
theorem fine_empty (b : Nat) (m : Value) : Fine (emptyN b m) := ⟨good_empty b m, Fits.mk' (by decide) (by unfold Fitss; trivial), Br.mk' (by unfold Brs; trivial)⟩
theorem fine_ins {root : Nd} (h : Fine root) (k : ByteArray) (hk : k.size < 4000000000000) (l : Lf) (hl : l.key = k) (ns : Sup) : Fine (insN root k l ns) :=
  ⟨good_ins h.toGood k hk l hl ns, fits_ins k.size k (Nat.le_refl _) root _ (by have := h.top; omega) h.fits l ns, br_ins k.size k (Nat.le_refl _) root h.br l ns⟩
theorem fine_del {root m : Nd} (h : Fine root) (k : ByteArray) (l : Lf) (ns : Sup) (hd : delN root k ns = some (m, l)) : Fine m ∧ findT root (L k) = some l ∧ ∀ r, findT m r = if r = L k then none else findT root r := by
  have hd2 := del_find k.size k (Nat.le_refl _) root h.ok ns
  have hf := fits_del k.size k (Nat.le_refl _) root m _ ns l h.fits hd
  cases e : findT root (L k) with
  | none => rw [hd2.1 e] at hd; cases hd
  | some l' =>
    obtain ⟨m', h1, h2, h3, h4⟩ := hd2.2 l' e
    rw [hd] at h1
    cases h1
    refine ⟨⟨⟨h3, hf.sm (by omega), by rw [h2]; exact h.top, fun r l2 h5 => ?_⟩, hf, br_del k.size k (Nat.le_refl _) root m ns l h.br hd⟩, rfl, h4⟩
    rw [h4] at h5
    split at h5
    · cases h5
    · exact h.keys r l2 h5
theorem all_del {root m : Nd} (h : Fine root) (k : ByteArray) (l : Lf) (ns : Sup) (hd : delN root k ns = some (m, l)) : All m = (All root).filter (fun e => decide (e.1 ≠ L k)) := by
  obtain ⟨hm, _, hf⟩ := fine_del h k l ns hd
  refine rise_ext (all_rise hm.toGood) ((all_rise h.toGood).filter _) (fun x => ?_)
  obtain ⟨q, l'⟩ := x
  rw [mem_all hm.toGood, hf, List.mem_filter, mem_all h.toGood]
  by_cases e : q = L k
  · rw [if_pos e]; simp [e]
  · rw [if_neg e]; simp [e]
end Go.Proofs.Ytjhgknagmiekeaa.T
set_option linter.unusedVariables false
set_option linter.unusedSimpArgs false
namespace Go.Proofs.Ytjhgknagmiekeaa.T
def nodeT (n : Nd) (r : List UInt8) : Option Nd :=
  if h0 : r = [] then some n
  else match kidT n.kids (hd r) with
    | none => none
    | some k => if h : 0 < k.label.size ∧ L k.label <+: r then nodeT k (r.drop k.label.size) else none
termination_by r.length
decreasing_by
  have : 0 < r.length := by cases r with | nil => exact absurd rfl h0 | cons a b => simp
  rw [List.length_drop]
  omega
theorem nodeT_nil (n : Nd) : nodeT n [] = some n := by rw [nodeT, dif_pos rfl]
def beneath (r : List UInt8) (k : Nd) : Option Nd := if 0 < k.label.size ∧ L k.label <+: r then nodeT k (r.drop k.label.size) else none
theorem nodeT_eq (n : Nd) (r : List UInt8) (h : r ≠ []) : nodeT n r = (kidT n.kids (hd r)).bind (beneath r) := by
  rw [nodeT, dif_neg h]
  cases kidT n.kids (hd r) with
  | none => rfl
  | some k =>
    simp only [Option.bind_some, beneath]
    by_cases h2 : 0 < k.label.size ∧ L k.label <+: r
    · rw [dif_pos h2, if_pos h2]
    · rw [dif_neg h2, if_neg h2]
theorem nodeT_kid {n : Nd} (ho : Ok n) {k : Nd} (hk : k ∈ n.kids) (r : List UInt8) : nodeT n (L k.label ++ r) = nodeT k r := by
  have hpos := ho.parts.2.1 k hk
  have hne := L_ne hpos
  rw [nodeT_eq _ _ (by simp [hne]), hd_append hne]
  have hf : hd (L k.label) = fb k := (fb_hd k).symm
  rw [hf, kidT_of_mem ho.parts.1 hk]
  simp only [Option.bind_some, beneath]
  rw [if_pos ⟨hpos, List.prefix_append _ _⟩]
  congr 1
  rw [← L_len, List.drop_left]
theorem nodeT_of {n : Nd} (ho : Ok n) {r : List UInt8} {x : Nd} (h : nodeT n r = some x) : (r = [] ∧ x = n) ∨ ∃ k ∈ n.kids, ∃ t, r = L k.label ++ t ∧ nodeT k t = some x := by
  by_cases hr : r = []
  · subst hr; rw [nodeT_nil] at h; cases h; exact .inl ⟨rfl, rfl⟩
  · rw [nodeT_eq _ _ hr] at h
    cases e : kidT n.kids (hd r) with
    | none => rw [e] at h; cases h
    | some k =>
      rw [e] at h
      simp only [Option.bind_some, beneath] at h
      split at h
      · rename_i hp
        obtain ⟨t, ht⟩ := hp.2
        refine .inr ⟨k, (kidT_some e).1, t, ht.symm, ?_⟩
        rw [← ht, ← L_len, List.drop_left] at h
        exact h
      · cases h
theorem findT_node : ∀ (N : Nat) (n : Nd) (r : List UInt8), r.length ≤ N → findT n r = (nodeT n r).bind Nd.leaf := by
  intro N
  induction N with
  | zero =>
    intro n r h
    have : r = [] := List.length_eq_zero_iff.1 (by omega)
    subst this
    rw [findT_nil, nodeT_nil]; rfl
  | succ N ih =>
    intro n r h
    by_cases hr : r = []
    · subst hr; rw [findT_nil, nodeT_nil]; rfl
    · rw [findT_eq _ _ hr, nodeT_eq _ _ hr]
      cases e : kidT n.kids (hd r) with
      | none => rfl
      | some k =>
        simp only [Option.bind_some, below, beneath]
        by_cases hp : 0 < k.label.size ∧ L k.label <+: r
        · rw [if_pos hp, if_pos hp]
          exact ih k _ (by rw [List.length_drop]; omega)
        · rw [if_neg hp, if_neg hp]; rfl
mutual
/-- a node that is full has something beneath it -/
theorem some_beneath : ∀ n : Nd, Ok n → Full n → Br n → ∃ t l, findT n t = some l
  | .mk b label leaf kids mark, ho, hf, hb => by
    cases leaf with
    | some l => exact ⟨[], l, by rw [findT_nil]; rfl⟩
    | none =>
      have h2 : 2 ≤ kids.length := hf.resolve_left (fun h => by cases h)
      cases kids with
      | nil => simp at h2
      | cons k ks =>
        obtain ⟨t, l, h⟩ := some_kid (k :: ks) ho.parts.2.2 hb.parts k (by simp)
        exact ⟨L k.label ++ t, l, by rw [findT_kid ho (show k ∈ (Nd.mk b label none (k :: ks) mark).kids by simp [Nd.kids])]; exact h⟩
theorem some_kid : ∀ ks : List Nd, Oks ks → Brs ks → ∀ k ∈ ks, ∃ t l, findT k t = some l
  | [], _, _, k, hk => by simp at hk
  | n :: r, ho, hb, k, hk => by
    unfold Oks at ho
    unfold Brs at hb
    rcases List.mem_cons.1 hk with e | e
    · rw [e]; exact some_beneath n ho.1 hb.1.1 hb.1.2
    · exact some_kid r ho.2 hb.2 k e
end
def Parts (n : Nd) (r : List UInt8) : Prop := ∃ a b s t, a ≠ b ∧ findT n (r ++ a :: s) ≠ none ∧ findT n (r ++ b :: t) ≠ none
theorem some_ne {α : Type} {o : Option α} (h : o ≠ none) : ∃ x, o = some x := by cases o with | none => exact absurd rfl h | some x => exact ⟨x, rfl⟩
theorem fork_of {n : Nd} (ho : Ok n) (hb : Br n) (h : 2 ≤ n.kids.length) : Parts n [] := by
  cases e : n.kids with
  | nil => rw [e] at h; simp at h
  | cons k1 r1 =>
    cases r1 with
    | nil => rw [e] at h; simp at h
    | cons k2 r2 =>
      have m1 : k1 ∈ n.kids := by rw [e]; simp
      have m2 : k2 ∈ n.kids := by rw [e]; simp
      obtain ⟨t1, l1, h1⟩ := some_kid n.kids ho.parts.2.2 hb.parts k1 m1
      obtain ⟨t2, l2, h2⟩ := some_kid n.kids ho.parts.2.2 hb.parts k2 m2
      have p1 := L_ne (ho.parts.2.1 k1 m1)
      have p2 := L_ne (ho.parts.2.1 k2 m2)
      have hlt : fb k1 < fb k2 := by
        have := ho.parts.1
        rw [e] at this
        exact (List.pairwise_cons.1 this).1 (fb k2) (by simp)
      rw [← findT_kid ho m1] at h1
      rw [← findT_kid ho m2] at h2
      rw [fb_hd, fb_hd] at hlt
      cases e1 : L k1.label with
      | nil => exact absurd e1 p1
      | cons a s =>
        cases e2 : L k2.label with
        | nil => exact absurd e2 p2
        | cons b t =>
          rw [e1] at h1 hlt
          rw [e2] at h2 hlt
          refine ⟨a, b, s ++ t1, t ++ t2, fun e => ?_, ?_, ?_⟩
          · subst e; exact absurd hlt (Nat.lt_irrefl _)
          · show findT n (a :: s ++ t1) ≠ none
            rw [h1]; simp
          · show findT n (b :: t ++ t2) ≠ none
            rw [h2]; simp
theorem node_iff : ∀ (N : Nat) (n : Nd) (r : List UInt8), r.length ≤ N → r ≠ [] → Ok n → Br n → (nodeT n r ≠ none ↔ findT n r ≠ none ∨ Parts n r) := by
  intro N
  induction N with
  | zero => intro n r h hr; exact absurd (List.length_eq_zero_iff.1 (by omega)) hr
  | succ N ih =>
    intro n r h hr ho hb
    constructor
    · intro hn
      obtain ⟨x, hx⟩ := some_ne hn
      rcases nodeT_of ho hx with ⟨e, _⟩ | ⟨k, hk, t, e, hx2⟩
      · exact absurd e hr
      · have hbk := hb.parts.mem k hk
        have hok := ho.parts.2.2.get k hk
        have hpk := L_ne (ho.parts.2.1 k hk)
        by_cases ht : t = []
        · subst ht
          rw [List.append_nil] at e
          subst e
          rcases hbk.1 with hl | hl
          · refine .inl ?_
            have := findT_kid ho hk []
            rw [List.append_nil, findT_nil] at this
            rw [this]
            intro e; rw [e] at hl; cases hl
          · obtain ⟨a, b, s, t, hab, h1, h2⟩ := fork_of hok hbk.2 hl
            refine .inr ⟨a, b, s, t, hab, ?_, ?_⟩
            · rw [findT_kid ho hk]; exact h1
            · rw [findT_kid ho hk]; exact h2
        · have hlen : t.length ≤ N := by
            have h1 := congrArg List.length e
            have h2 : 0 < (L k.label).length := List.length_pos_iff.2 hpk
            rw [List.length_append] at h1
            omega
          have := (ih k t hlen ht hok hbk.2).1 (by rw [hx2]; simp)
          rw [e]
          rcases this with h1 | ⟨a, b, s, u, hab, h1, h2⟩
          · exact .inl (by rw [findT_kid ho hk]; exact h1)
          · refine .inr ⟨a, b, s, u, hab, ?_, ?_⟩
            · rw [List.append_assoc, findT_kid ho hk]; exact h1
            · rw [List.append_assoc, findT_kid ho hk]; exact h2
    · rintro (h1 | ⟨a, b, s, t, hab, h1, h2⟩)
      · rw [findT_node _ n r (Nat.le_refl _)] at h1
        intro e
        rw [e] at h1
        exact h1 rfl
      · obtain ⟨l1, e1⟩ := some_ne h1
        obtain ⟨l2, e2⟩ := some_ne h2
        rcases findT_of ho e1 with ⟨e, _⟩ | ⟨k, hk, u, eu, hu⟩
        · simp at e
        · rcases findT_of ho e2 with ⟨e, _⟩ | ⟨k', hk', u', eu', hu'⟩
          · simp at e
          · have hpk := L_ne (ho.parts.2.1 k hk)
            have hpk' := L_ne (ho.parts.2.1 k' hk')
            have hkk : k = k' := by
              have f1 : hd r = fb k := by rw [← hd_append (y := a :: s) hr, eu, hd_append hpk, fb_hd]
              have f2 : hd r = fb k' := by rw [← hd_append (y := b :: t) hr, eu', hd_append hpk', fb_hd]
              have g1 := kidT_of_mem ho.parts.1 hk
              have g2 := kidT_of_mem ho.parts.1 hk'
              rw [← f1] at g1
              rw [← f2, g1] at g2
              exact Option.some.inj g2
            subst hkk
            -- the label is a beginning of r
            have hpre : L k.label <+: r := by
              have q1 : L k.label <+: r ++ a :: s := ⟨u, eu.symm⟩
              have q2 : L k.label <+: r ++ b :: t := ⟨u', eu'.symm⟩
              rcases Nat.lt_or_ge r.length (L k.label).length with hl | hl
              · exfalso
                have r1 : r <+: L k.label := List.prefix_of_prefix_length_le (List.prefix_append _ _) q1 (by omega)
                obtain ⟨v, hv⟩ := r1
                cases v with
                | nil => rw [List.append_nil] at hv; rw [hv] at hl; omega
                | cons c v =>
                  rw [← hv] at q1 q2
                  have q3 := (List.prefix_append_right_inj r).1 q1
                  have q4 := (List.prefix_append_right_inj r).1 q2
                  rw [List.cons_prefix_cons] at q3 q4
                  exact hab (q3.1.symm.trans q4.1)
              · exact List.prefix_of_prefix_length_le q1 (List.prefix_append _ _) hl
            obtain ⟨t', ht'⟩ := hpre
            subst ht'
            rw [nodeT_kid ho hk]
            by_cases htn : t' = []
            · subst htn; rw [nodeT_nil]; simp
            · have hlen : t'.length ≤ N := by
                have h2 : 0 < (L k.label).length := List.length_pos_iff.2 hpk
                rw [List.length_append] at h
                omega
              refine (ih k t' hlen htn (ho.parts.2.2.get k hk) (hb.parts.mem k hk).2).2 (.inr ⟨a, b, s, t, hab, ?_, ?_⟩)
              · rw [List.append_assoc, findT_kid ho hk] at h1; exact h1
              · rw [List.append_assoc, findT_kid ho hk] at h2; exact h2
end Go.Proofs.Ytjhgknagmiekeaa.T
set_option linter.unusedVariables false
set_option linter.unusedSimpArgs false
namespace Go.Proofs.Ytjhgknagmiekeaa.T
abbrev PN := List UInt8 × Nd
mutual
/-- the nodes with their paths, each ahead of what lies beneath it -/
def nods (p : List UInt8) : Nd → List PN
  | .mk b label leaf kids mark => (p ++ L label, .mk b label leaf kids mark) :: nodss (p ++ L label) kids
def nodss (p : List UInt8) : List Nd → List PN
  | [] => []
  | n :: r => nods p n ++ nodss p r
end
theorem nods_eq (p : List UInt8) (n : Nd) : nods p n = (p ++ L n.label, n) :: nodss (p ++ L n.label) n.kids := by
  cases n; rw [nods]; rfl
theorem mem_nodss (p : List UInt8) (x : PN) : ∀ ks : List Nd, x ∈ nodss p ks ↔ ∃ k ∈ ks, x ∈ nods p k
  | [] => by rw [nodss]; simp
  | n :: r => by
    rw [nodss, List.mem_append, mem_nodss p x r]
    constructor
    · rintro (h | ⟨k, hk, h⟩)
      · exact ⟨n, by simp, h⟩
      · exact ⟨k, by simp [hk], h⟩
    · rintro ⟨k, hk, h⟩
      rcases List.mem_cons.1 hk with e | e
      · subst e; exact .inl h
      · exact .inr ⟨k, e, h⟩
mutual
theorem mem_nods (q : List UInt8) (x : Nd) : ∀ (n : Nd) (p : List UInt8), Ok n → ((q, x) ∈ nods p n ↔ ∃ r, q = p ++ L n.label ++ r ∧ nodeT n r = some x)
  | .mk b label leaf kids mark, p, ho => by
    have hk := mem_nkids q x kids (p ++ L label) ho.parts.2.2
    rw [nods_eq, List.mem_cons, mem_nodss]
    constructor
    · rintro (h | ⟨k, hkm, h⟩)
      · obtain ⟨h1, h2⟩ := Prod.mk.inj h
        refine ⟨[], by rw [h1, List.append_nil], ?_⟩
        rw [nodeT_nil, h2]
      · obtain ⟨r, e, hr⟩ := (hk k hkm).1 h
        refine ⟨L k.label ++ r, by rw [e]; simp [Nd.label], ?_⟩
        rw [nodeT_kid ho (show k ∈ (Nd.mk b label leaf kids mark).kids from hkm)]
        exact hr
    · rintro ⟨r, e, hr⟩
      rcases nodeT_of ho hr with ⟨e1, e2⟩ | ⟨k, hkm, t, e1, e2⟩
      · subst e1
        refine .inl ?_
        rw [e, List.append_nil, e2]
      · exact .inr ⟨k, hkm, (hk k hkm).2 ⟨t, by rw [e, e1]; simp [Nd.label], e2⟩⟩
theorem mem_nkids (q : List UInt8) (x : Nd) : ∀ (ks : List Nd) (p : List UInt8), Oks ks → ∀ k ∈ ks, ((q, x) ∈ nods p k ↔ ∃ r, q = p ++ L k.label ++ r ∧ nodeT k r = some x)
  | [], _, _ => by simp
  | n :: r, p, ho => by
    intro k hk
    unfold Oks at ho
    rcases List.mem_cons.1 hk with e | e
    · rw [e]; exact mem_nods q x n p ho.1
    · exact mem_nkids q x r p ho.2 k e
end
mutual
theorem nods_rise : ∀ (n : Nd) (p : List UInt8), Ok n → (nods p n).Pairwise (fun a b => a.1 < b.1)
  | .mk b label leaf kids mark, p, ho => by
    rw [nods_eq, List.pairwise_cons]
    refine ⟨?_, nodss_rise kids (p ++ L label) ho.parts.2.2 ho.parts.1 ho.parts.2.1⟩
    intro c hc
    obtain ⟨k, hkm, hck⟩ := (mem_nodss _ _ _).1 hc
    obtain ⟨r, er, _⟩ := (mem_nkids c.1 c.2 kids (p ++ L label) ho.parts.2.2 k hkm).1 hck
    rw [er]
    show p ++ L label < _
    rw [List.append_assoc (p ++ L label)]
    exact blt_ext _ _ (by have := L_ne (ho.parts.2.1 k hkm); simp [this])
theorem nodss_rise : ∀ (ks : List Nd) (p : List UInt8), Oks ks → (ks.map fb).Pairwise (· < ·) → (∀ k ∈ ks, 0 < k.label.size) → (nodss p ks).Pairwise (fun a b => a.1 < b.1)
  | [], _, _, _, _ => by rw [nodss]; exact List.Pairwise.nil
  | n :: r, p, ho, hp, hl => by
    unfold Oks at ho
    have hp2 := List.pairwise_cons.1 hp
    rw [nodss, List.pairwise_append]
    refine ⟨nods_rise n p ho.1, nodss_rise r p ho.2 hp2.2 (fun k hk => hl k (by simp [hk])), ?_⟩
    intro a ha c hc
    obtain ⟨k, hkm, hck⟩ := (mem_nodss _ _ _).1 hc
    obtain ⟨s, es, _⟩ := (mem_nods a.1 a.2 n p ho.1).1 ha
    obtain ⟨t, et, _⟩ := (mem_nkids c.1 c.2 r p ho.2 k hkm).1 hck
    rw [es, et, List.append_assoc, List.append_assoc, blt_pre]
    have h1 := L_ne (hl n (by simp))
    have h2 := L_ne (hl k (by simp [hkm]))
    refine blt_hd (by simp [h1]) (by simp [h2]) ?_
    rw [hd_append h1, hd_append h2, ← fb_hd, ← fb_hd]
    exact hp2.1 (fb k) (List.mem_map_of_mem hkm)
end
abbrev Nods (root : Nd) : List PN := nods [] root
theorem mem_nodsA {root : Nd} (h : Good root) (q : List UInt8) (x : Nd) : (q, x) ∈ Nods root ↔ nodeT root q = some x := by
  rw [mem_nods q x root [] h.ok]
  have e : L root.label = [] := List.length_eq_zero_iff.1 (by rw [L_len]; exact h.top)
  rw [e]
  constructor
  · rintro ⟨r, e, hr⟩; rw [e]; exact hr
  · intro hr; exact ⟨q, rfl, hr⟩
theorem nods_riseA {root : Nd} (h : Good root) : (Nods root).Pairwise (fun a b => a.1 < b.1) := nods_rise root [] h.ok
theorem nods_pre {n : Nd} {p : List UInt8} (ho : Ok n) {x : PN} (h : x ∈ nods p n) : p ++ L n.label <+: x.1 := by
  obtain ⟨r, e, -⟩ := (mem_nods x.1 x.2 n p ho).1 h
  rw [e]
  exact List.prefix_append _ _
mutual
/-- how many nodes -/
def cntN : Nd → Nat
  | .mk _ _ _ kids _ => 1 + cntNs kids
def cntNs : List Nd → Nat
  | [] => 0
  | n :: r => cntN n + cntNs r
end
theorem cntN_eq (n : Nd) : cntN n = 1 + cntNs n.kids := by cases n; rw [cntN]; rfl
mutual
theorem nods_len : ∀ (n : Nd) (p : List UInt8), (nods p n).length = cntN n
  | .mk b label leaf kids mark, p => by
    rw [nods, cntN, List.length_cons, nodss_len kids]
    omega
theorem nodss_len : ∀ (ks : List Nd) (p : List UInt8), (nodss p ks).length = cntNs ks
  | [], p => by rw [nodss, cntNs]; rfl
  | n :: r, p => by rw [nodss, cntNs, List.length_append, nods_len n p, nodss_len r p]
end
end Go.Proofs.Ytjhgknagmiekeaa.T
set_option linter.unusedVariables false
set_option linter.unusedSimpArgs false
namespace Go.Proofs.Ytjhgknagmiekeaa.T
mutual
/-- the blocks of a tree's nodes -/
def bls : Nd → List Nat
  | .mk b _ _ kids _ => b :: blss kids
def blss : List Nd → List Nat
  | [] => []
  | n :: r => bls n ++ blss r
end
mutual
/-- how many nodes are not known, down to the known ones -/
def cntF (K : Nat → Bool) : Nd → Nat
  | .mk b _ _ kids _ => if K b = true then 0 else 1 + cntFs K kids
def cntFs (K : Nat → Bool) : List Nd → Nat
  | [] => 0
  | n :: r => cntF K n + cntFs K r
end
mutual
/-- how many nodes lie on the way of r -/
def onC : Nd → List UInt8 → Nat
  | .mk _ label _ kids _, r => if L label <+: r then 1 + onCs kids (r.drop label.size) else 0
def onCs : List Nd → List UInt8 → Nat
  | [], _ => 0
  | n :: t, r => onC n r + onCs t r
end
theorem bls_eq (n : Nd) : bls n = n.b :: blss n.kids := by cases n; rw [bls]; rfl
theorem cntF_eq (K : Nat → Bool) (n : Nd) : cntF K n = if K n.b = true then 0 else 1 + cntFs K n.kids := by cases n; rw [cntF]; rfl
theorem onC_eq (n : Nd) (r : List UInt8) : onC n r = if L n.label <+: r then 1 + onCs n.kids (r.drop n.label.size) else 0 := by cases n; rw [onC]; rfl
theorem onC_off {n : Nd} {r : List UInt8} (h : ¬ L n.label <+: r) : onC n r = 0 := by rw [onC_eq, if_neg h]
theorem mem_blss {b : Nat} : ∀ {ks : List Nd}, b ∈ blss ks ↔ ∃ k ∈ ks, b ∈ bls k
  | [] => by rw [blss]; simp
  | n :: r => by
    rw [blss, List.mem_append, mem_blss (ks := r)]
    constructor
    · rintro (h | ⟨k, hk, h⟩)
      · exact ⟨n, by simp, h⟩
      · exact ⟨k, by simp [hk], h⟩
    · rintro ⟨k, hk, h⟩
      rcases List.mem_cons.1 hk with e | e
      · subst e; exact .inl h
      · exact .inr ⟨k, e, h⟩
theorem cntFs_zero {K : Nat → Bool} : ∀ {ks : List Nd}, (∀ k ∈ ks, cntF K k = 0) → cntFs K ks = 0
  | [], _ => by rw [cntFs]
  | n :: r, h => by rw [cntFs, h n (by simp), cntFs_zero (fun k hk => h k (by simp [hk]))]
theorem onCs_zero {r : List UInt8} : ∀ {ks : List Nd}, (∀ k ∈ ks, onC k r = 0) → onCs ks r = 0
  | [], _ => by rw [onCs]
  | n :: t, h => by rw [onCs, h n (by simp), onCs_zero (fun k hk => h k (by simp [hk]))]
theorem cntFs_append {K : Nat → Bool} : ∀ (a b : List Nd), cntFs K (a ++ b) = cntFs K a + cntFs K b
  | [], b => by rw [List.nil_append, cntFs, Nat.zero_add]
  | n :: r, b => by rw [List.cons_append, cntFs, cntFs, cntFs_append r b, Nat.add_assoc]
theorem onCs_append {r : List UInt8} : ∀ (a b : List Nd), onCs (a ++ b) r = onCs a r + onCs b r
  | [], b => by rw [List.nil_append, onCs, Nat.zero_add]
  | n :: t, b => by rw [List.cons_append, onCs, onCs, onCs_append t b, Nat.add_assoc]
theorem set_cut1 {α : Type} (l : List α) (i : Nat) (x : α) (h : i < l.length) : l.set i x = l.take i ++ x :: l.drop (i + 1) := by
  rw [List.set_eq_take_append_cons_drop, if_pos h]
def Kn (K : Nat → Bool) (n : Nd) : Prop := ∀ b ∈ bls n, K b = true
theorem Kn.self {K : Nat → Bool} {n : Nd} (h : Kn K n) : K n.b = true := h n.b (by rw [bls_eq]; simp)
theorem Kn.kid {K : Nat → Bool} {n : Nd} (h : Kn K n) {k : Nd} (hk : k ∈ n.kids) : Kn K k := fun b hb => h b (by rw [bls_eq]; exact List.mem_cons_of_mem _ (mem_blss.2 ⟨k, hk, hb⟩))
theorem Kn.zero {K : Nat → Bool} {n : Nd} (h : Kn K n) : cntF K n = 0 := by rw [cntF_eq, if_pos h.self]
theorem cntF_new {K : Nat → Bool} {b : Nat} {label : ByteArray} {leaf : Option Lf} {kids : List Nd} {m : Value} (h : K b = false) : cntF K (.mk b label leaf kids m) = 1 + cntFs K kids := by rw [cntF, if_neg (by rw [h]; simp)]
theorem onC_on {b : Nat} {label : ByteArray} {leaf : Option Lf} {kids : List Nd} {m : Value} (r : List UInt8) : onC (.mk b label leaf kids m) (L label ++ r) = 1 + onCs kids r := by
  rw [onC, if_pos (List.prefix_append _ _), ← L_len, List.drop_left]
theorem cnt_set {K : Nat → Bool} {ks : List Nd} (h : ∀ k ∈ ks, cntF K k = 0) {i : Nat} (hi : i < ks.length) (x : Nd) : cntFs K (ks.set i x) = cntF K x := by
  rw [set_cut1 _ _ _ hi, cntFs_append, cntFs, cntFs_zero (fun k hk => h k (List.mem_of_mem_take hk)), cntFs_zero (fun k hk => h k (List.mem_of_mem_drop hk))]
  omega
theorem cnt_ins {K : Nat → Bool} {ks : List Nd} (h : ∀ k ∈ ks, cntF K k = 0) (i : Nat) (x : Nd) : cntFs K (insAt i x ks) = cntF K x := by
  unfold insAt
  rw [cntFs_append, cntFs, cntFs_zero (fun k hk => h k (List.mem_of_mem_take hk)), cntFs_zero (fun k hk => h k (List.mem_of_mem_drop hk))]
  omega
theorem on_ins {r : List UInt8} {ks : List Nd} (h : ∀ k ∈ ks, onC k r = 0) (i : Nat) (x : Nd) : onCs (insAt i x ks) r = onC x r := by
  unfold insAt
  rw [onCs_append, onCs, onCs_zero (fun k hk => h k (List.mem_of_mem_take hk)), onCs_zero (fun k hk => h k (List.mem_of_mem_drop hk))]
  omega
theorem on_set {r : List UInt8} {ks : List Nd} {i : Nat} (hi : i < ks.length) (h : ∀ j (hj : j < ks.length), j ≠ i → onC ks[j] r = 0) (x : Nd) : onCs (ks.set i x) r = onC x r := by
  have h1 : ∀ k ∈ ks.take i, onC k r = 0 := fun k hk => by
    obtain ⟨j, hj, e⟩ := List.getElem_of_mem hk
    rw [List.length_take] at hj
    rw [List.getElem_take] at e
    rw [← e]
    exact h j (by omega) (by omega)
  have h2 : ∀ k ∈ ks.drop (i + 1), onC k r = 0 := fun k hk => by
    obtain ⟨j, hj, e⟩ := List.getElem_of_mem hk
    rw [List.length_drop] at hj
    rw [List.getElem_drop] at e
    rw [← e]
    exact h (i + 1 + j) (by omega) (by omega)
  rw [set_cut1 _ _ _ hi, onCs_append, onCs, onCs_zero h1, onCs_zero h2]
  omega
theorem on_erase {r : List UInt8} {ks : List Nd} {i : Nat} (hi : i < ks.length) (h : ∀ j (hj : j < ks.length), j ≠ i → onC ks[j] r = 0) : ∀ k ∈ ks.eraseIdx i, onC k r = 0 := fun k hk => by
  rw [List.mem_eraseIdx_iff_getElem] at hk
  obtain ⟨j, hj, h1, e⟩ := hk
  rw [← e]
  exact h j hj h1
theorem off_way {n : Nd} (ho : Ok n) {k : Nd} (hk : k ∈ n.kids) {rest : ByteArray} (hne : fb k ≠ fbS rest) : ¬ L k.label <+: L rest := fun h => by
  have := hd_prefix h (by rw [L_len]; exact ho.parts.2.1 k hk)
  exact hne (by rw [fb_hd]; exact this.symm)
theorem fb_apart {n : Nd} (ho : Ok n) {i j : Nat} (hi : i < n.kids.length) (hj : j < n.kids.length) (h : j ≠ i) : fb n.kids[j] ≠ fb n.kids[i] := by
  have hp := ho.parts.1
  rw [List.pairwise_map, List.pairwise_iff_getElem] at hp
  rcases Nat.lt_or_gt_of_ne h with h | h
  · have := hp j i hj hi h; omega
  · have := hp i j hi hj h; omega
theorem kid_fb {n k : Nd} (ho : Ok n) {rest : ByteArray} (h : kidN n rest = some k) : fb k = fbS rest := by
  rw [kidN_eq n ho] at h
  exact (kidT_some h).2
theorem kid_none {n : Nd} (ho : Ok n) {rest : ByteArray} (h : kidN n rest = none) {k : Nd} (hk : k ∈ n.kids) : fb k ≠ fbS rest := fun e => by
  rw [kidN_eq n ho] at h
  have := kidT_of_mem ho.parts.1 hk
  rw [e] at this
  exact absurd (this.symm.trans h) (by simp)
theorem others_off {n k : Nd} (ho : Ok n) {rest : ByteArray} (h : kidN n rest = some k) : ∃ hi : pos (n.kids.map fb) (fbS rest) < n.kids.length, n.kids[pos (n.kids.map fb) (fbS rest)] = k ∧ ∀ j (hj : j < n.kids.length), j ≠ pos (n.kids.map fb) (fbS rest) → ¬ L n.kids[j].label <+: L rest := by
  obtain ⟨-, hi, e⟩ := kidN_some h
  refine ⟨hi, e, fun j hj hne => ?_⟩
  refine off_way ho (List.getElem_mem hj) ?_
  have := fb_apart ho hi hj hne
  rw [e, kid_fb ho h] at this
  exact this
theorem rest_split {k rest : ByteArray} (h : L k <+: L rest) : L rest = L k ++ L (rest.extract k.size rest.size) := by
  obtain ⟨t, ht⟩ := h
  rw [L_tail, ← ht, ← L_len, List.drop_left]
theorem long_off {x : ByteArray} (h : 0 < x.size) : ¬ L x <+: [] := fun e => L_ne h (List.prefix_nil.1 e)
theorem low_off (k : Nd) (p : Nat) (rest : ByteArray) (hp : p < k.label.size) (hn : p < rest.size → (L k.label)[p]? ≠ (L rest)[p]?) : ¬ L (k.label.extract p k.label.size) <+: L (rest.extract p rest.size) := by
  rw [L_tail, L_tail]
  intro h
  have h1 : ((L k.label).drop p).length = k.label.size - p := by rw [List.length_drop, L_len]
  obtain ⟨t, ht⟩ := h
  have h0 : ((L k.label).drop p ++ t)[0]? = ((L rest).drop p)[0]? := by rw [ht]
  rw [List.getElem?_append_left (by rw [h1]; omega), List.getElem?_drop, List.getElem?_drop, Nat.add_zero] at h0
  have h2 : p < rest.size := by
    rcases Nat.lt_or_ge p rest.size with h | h
    · exact h
    · exfalso
      have e1 : (L rest)[p]? = none := List.getElem?_eq_none (by rw [L_len]; exact h)
      rw [e1] at h0
      have := List.getElem?_eq_none_iff.1 h0
      rw [L_len] at this
      omega
  exact hn h2 h0
end Go.Proofs.Ytjhgknagmiekeaa.T
set_option linter.unusedVariables false
set_option linter.unusedSimpArgs false
namespace Go.Proofs.Ytjhgknagmiekeaa.T
theorem cntFs_ins {K : Nat → Bool} (i : Nat) (x y : Nd) : cntFs K (insAt i x [y]) = cntF K x + cntF K y := by
  unfold insAt
  rw [cntFs_append, cntFs]
  cases i with
  | zero => simp [cntFs]
  | succ i => simp [cntFs]; omega
theorem split_on {K : Nat → Bool} {k : Nd} (hkn : Kn K k) {rest : ByteArray} {l : Lf} {ns : Sup} (hns : ∀ j, K (ns j).1 = false) {p : Nat} (hp : p = comB k.label rest) (hp0 : 0 < p) (hlt : p < k.label.size) :
    cntF K (splitN k p rest l ns) = onC (splitN k p rest l ns) (L rest) + 1 := by
  have hle := (comB_le k.label rest).2
  have hpre : L (rest.extract 0 p) = (L rest).take p := L_head rest p
  have hlow : ¬ L (k.label.extract p k.label.size) <+: L (rest.extract p rest.size) := by
    refine low_off k p rest hlt (fun h => ?_)
    have := com_stop (L k.label) (L rest) (by rw [L_len]; rw [hp] at hlt; exact hlt) (by rw [L_len]; rw [hp] at h; exact h)
    intro e
    rw [hp] at e
    apply this
    show (L k.label).getD (comB k.label rest) 0 = (L rest).getD (comB k.label rest) 0
    rw [List.getD_eq_getElem?_getD, List.getD_eq_getElem?_getD, e]
  have hlowc : cntF K (lowN k p (ns 2).1) = 1 := by
    unfold lowN
    rw [cntF_new (hns 2), cntFs_zero (fun x hx => (hkn.kid hx).zero)]
  have hlowo : ∀ r, ¬ L (k.label.extract p k.label.size) <+: r → onC (lowN k p (ns 2).1) r = 0 := fun r h => onC_off h
  unfold splitN
  by_cases he : p = rest.size
  · rw [if_pos he, cntF_new (hns 1), cntFs, cntFs, hlowc]
    have e1 : L rest = L (rest.extract 0 p) ++ [] := by rw [hpre, List.append_nil, List.take_of_length_le (by rw [L_len]; omega)]
    rw [e1, onC_on, onCs, onCs, hlowo [] (by
      refine long_off ?_
      rw [ByteArray.size_extract]; omega)]
  · rw [if_neg he, cntF_new (hns 1), cntFs_ins, hlowc]
    have e1 : L rest = L (rest.extract 0 p) ++ L (rest.extract p rest.size) := by rw [hpre, L_tail, List.take_append_drop]
    rw [e1, onC_on, on_ins (fun x hx => by rw [List.mem_singleton.1 hx]; exact hlowo _ hlow)]
    have et : tipN (rest.extract p rest.size) l (ns 3) = .mk (ns 3).1 (rest.extract p rest.size) (some l) [] (ns 3).2 := rfl
    have e2 : L (rest.extract p rest.size) = L (rest.extract p rest.size) ++ [] := by rw [List.append_nil]
    rw [et, cntF_new (hns 3), cntFs]
    conv => rhs; rw [e2]
    rw [onC_on, onCs]
theorem ins_fresh {K : Nat → Bool} : ∀ (N : Nat) (rest : ByteArray), rest.size ≤ N → ∀ (n : Nd), Ok n → Kn K n → ∀ (l : Lf) (ns : Sup), (∀ j, K (ns j).1 = false) →
    ∃ e, e ≤ 1 ∧ cntF K (insN n rest l ns) = onC (insN n rest l ns) (L n.label ++ L rest) + e ∧ (insN n rest l ns).label = n.label := by
  intro N
  induction N with
  | zero =>
    intro rest hr n ho hk l ns hns
    have h0 : rest.size = 0 := by omega
    refine ⟨0, by omega, ?_, by rw [insN, dif_pos h0]; rfl⟩
    have e0 : L rest = [] := List.eq_nil_of_length_eq_zero (by rw [L_len, h0])
    rw [insN, dif_pos h0, cntF_new (hns 0), cntFs_zero (fun x hx => (hk.kid hx).zero), e0, onC_on, onCs_zero (fun x hx => onC_off (long_off (ho.parts.2.1 x hx)))]
  | succ N ih =>
    intro rest hr n ho hk l ns hns
    by_cases h0 : rest.size = 0
    · refine ⟨0, by omega, ?_, by rw [insN, dif_pos h0]; rfl⟩
      have e0 : L rest = [] := List.eq_nil_of_length_eq_zero (by rw [L_len, h0])
      rw [insN, dif_pos h0, cntF_new (hns 0), cntFs_zero (fun x hx => (hk.kid hx).zero), e0, onC_on, onCs_zero (fun x hx => onC_off (long_off (ho.parts.2.1 x hx)))]
    · cases hq : kidN n rest with
      | none =>
        have hi : insN n rest l ns = .mk (ns 0).1 n.label n.leaf (insAt (pos (n.kids.map fb) (fbS rest)) (tipN rest l (ns 1)) n.kids) (ns 0).2 := by
          rw [insN, dif_neg h0, hq]
        refine ⟨0, by omega, ?_, by rw [hi]; rfl⟩
        rw [hi, cntF_new (hns 0), cnt_ins (fun x hx => (hk.kid hx).zero), onC_on, on_ins (fun x hx => onC_off (off_way ho hx (kid_none ho hq hx)))]
        have et : tipN rest l (ns 1) = .mk (ns 1).1 rest (some l) [] (ns 1).2 := rfl
        have e2 : L rest = L rest ++ [] := by rw [List.append_nil]
        rw [et, cntF_new (hns 1), cntFs]
        conv => rhs; rw [e2]
        rw [onC_on, onCs]
      | some k =>
        obtain ⟨hi, ek, hoff⟩ := others_off ho hq
        have hkm : k ∈ n.kids := by rw [← ek]; exact List.getElem_mem _
        have hok := ho.parts.2.2.get k hkm
        have hkp := ho.parts.2.1 k hkm
        have hoff2 : ∀ j (hj : j < n.kids.length), j ≠ pos (n.kids.map fb) (fbS rest) → onC n.kids[j] (L rest) = 0 := fun j hj hne => onC_off (hoff j hj hne)
        have hc0 : 0 < comB k.label rest := com_pos n k rest hq (by omega) hkp
        by_cases hc : comB k.label rest = k.label.size
        · have hin : insN n rest l ns = .mk (ns 0).1 n.label n.leaf (n.kids.set (pos (n.kids.map fb) (fbS rest)) (insN k (rest.extract (comB k.label rest) rest.size) l (fun j => ns (j + 1)))) (ns 0).2 := by
            rw [insN, dif_neg h0, hq]
            simp only []
            rw [dif_pos ⟨hc0, hc⟩]
          obtain ⟨e, h1, h2, h3⟩ := ih (rest.extract (comB k.label rest) rest.size) (by rw [ByteArray.size_extract]; omega) k hok (hk.kid hkm) l (fun j => ns (j + 1)) (fun j => hns (j + 1))
          refine ⟨e, h1, ?_, by rw [hin]; rfl⟩
          rw [hin, cntF_new (hns 0), cnt_set (fun x hx => (hk.kid hx).zero) hi, onC_on, on_set hi hoff2, h2]
          have e3 : L rest = L k.label ++ L (rest.extract (comB k.label rest) rest.size) := by
            rw [hc]; exact rest_split ((comB_prefix _ _).1 hc)
          rw [← e3]
          omega
        · have hin : insN n rest l ns = .mk (ns 0).1 n.label n.leaf (n.kids.set (pos (n.kids.map fb) (fbS rest)) (splitN k (comB k.label rest) rest l ns)) (ns 0).2 := by
            rw [insN, dif_neg h0, hq]
            simp only []
            rw [dif_neg (fun h => hc h.2)]
          have hlt : comB k.label rest < k.label.size := by have := (comB_le k.label rest).1; omega
          refine ⟨1, by omega, ?_, by rw [hin]; rfl⟩
          rw [hin, cntF_new (hns 0), cnt_set (fun x hx => (hk.kid hx).zero) hi, onC_on, on_set hi hoff2, split_on (hk.kid hkm) hns rfl hc0 hlt]
          omega
theorem del_fresh {K : Nat → Bool} : ∀ (N : Nat) (rest : ByteArray), rest.size ≤ N → ∀ (n m : Nd) (l : Lf), Ok n → Br n → Kn K n → ∀ (ns : Sup), (∀ j, K (ns j).1 = false) → delN n rest ns = some (m, l) →
    ∃ e, e ≤ 1 ∧ cntF K m = onC m (L n.label ++ L rest) + e ∧ m.label = n.label ∧ (Full n → m.leaf = none → m.kids.length ≤ 1 → e = 0 ∧ ∀ q ∈ m.kids, q ∈ n.kids ∧ ¬ L q.label <+: L rest) := by
  intro N
  induction N with
  | zero =>
    intro rest hr n m l ho hb hk ns hns hd
    have h0 : rest.size = 0 := by omega
    have e0 : L rest = [] := List.eq_nil_of_length_eq_zero (by rw [L_len, h0])
    rw [delN, dif_pos h0] at hd
    obtain ⟨l', hl', e⟩ := Option.map_eq_some_iff.1 hd
    injection e with e1 e2
    subst e1
    refine ⟨0, by omega, ?_, rfl, fun _ _ _ => ⟨rfl, fun q hq => ⟨hq, by rw [e0]; exact long_off (ho.parts.2.1 q hq)⟩⟩⟩
    rw [cntF_new (hns 0), cntFs_zero (fun x hx => (hk.kid hx).zero), e0, onC_on, onCs_zero (fun x hx => onC_off (long_off (ho.parts.2.1 x hx)))]
  | succ N ih =>
    intro rest hr n m l ho hb hk ns hns hd
    by_cases h0 : rest.size = 0
    · have e0 : L rest = [] := List.eq_nil_of_length_eq_zero (by rw [L_len, h0])
      rw [delN, dif_pos h0] at hd
      obtain ⟨l', hl', e⟩ := Option.map_eq_some_iff.1 hd
      injection e with e1 e2
      subst e1
      refine ⟨0, by omega, ?_, rfl, fun _ _ _ => ⟨rfl, fun q hq => ⟨hq, by rw [e0]; exact long_off (ho.parts.2.1 q hq)⟩⟩⟩
      rw [cntF_new (hns 0), cntFs_zero (fun x hx => (hk.kid hx).zero), e0, onC_on, onCs_zero (fun x hx => onC_off (long_off (ho.parts.2.1 x hx)))]
    · rw [delN, dif_neg h0] at hd
      cases hq : downN n rest with
      | none => rw [hq] at hd; cases hd
      | some k =>
        rw [hq] at hd
        simp only [] at hd
        have hkn : kidN n rest = some k := by
          unfold downN at hq
          rw [if_neg h0] at hq
          obtain ⟨k', h1, h2⟩ := Option.bind_eq_some_iff.1 hq
          split at h2
          · injection h2 with h2; rw [← h2]; exact h1
          · cases h2
        have hpre : L k.label <+: L rest := by
          rw [downN_eq n ho rest h0] at hq
          obtain ⟨k', h1, h2⟩ := Option.bind_eq_some_iff.1 hq
          split at h2
          · rename_i h3; injection h2 with h2; rw [← h2]; exact h3
          · cases h2
        obtain ⟨hi, ek, hoff⟩ := others_off ho hkn
        have hkm : k ∈ n.kids := by rw [← ek]; exact List.getElem_mem _
        have hok := ho.parts.2.2.get k hkm
        have hkp := ho.parts.2.1 k hkm
        obtain ⟨hfk, hbk⟩ := hb.parts.mem k hkm
        have hoff2 : ∀ j (hj : j < n.kids.length), j ≠ pos (n.kids.map fb) (fbS rest) → onC n.kids[j] (L rest) = 0 := fun j hj hne => onC_off (hoff j hj hne)
        rw [dif_pos hkp] at hd
        obtain ⟨⟨m', l'⟩, hd', e⟩ := Option.map_eq_some_iff.1 hd
        injection e with e1 e2
        have e3 := rest_split hpre
        obtain ⟨e, h1, h2, h3, h4⟩ := ih (rest.extract k.label.size rest.size) (by rw [ByteArray.size_extract]; omega) k m' l' hok hbk (hk.kid hkm) (fun j => ns (j + 2)) (fun j => hns (j + 2)) hd'
        rw [← e3] at h2
        dsimp only at e1
        rcases shaped_cases m' (ns 1).1 with ⟨es, hful⟩ | ⟨hl, hks, es⟩ | ⟨q, hl, hks, es⟩
        · rw [es] at e1
          subst e1
          refine ⟨e, h1, ?_, rfl, fun hfn hnl hlen => ?_⟩
          · rw [show putKid n.kids (pos (n.kids.map fb) (fbS rest)) (some m') = n.kids.set (pos (n.kids.map fb) (fbS rest)) m' from rfl, cntF_new (hns 0), cnt_set (fun x hx => (hk.kid hx).zero) hi, onC_on, on_set hi hoff2, h2]
            omega
          · exfalso
            have hlen' : (n.kids.set (pos (n.kids.map fb) (fbS rest)) m').length ≤ 1 := hlen
            rw [List.length_set] at hlen'
            rcases hfn with hfn | hfn
            · rw [show n.leaf = none from hnl] at hfn; cases hfn
            · omega
        · rw [es] at e1
          subst e1
          refine ⟨0, by omega, ?_, rfl, fun hfn hnl hlen => ⟨rfl, fun x hx => ?_⟩⟩
          · rw [show putKid n.kids (pos (n.kids.map fb) (fbS rest)) none = n.kids.eraseIdx (pos (n.kids.map fb) (fbS rest)) from rfl, cntF_new (hns 0), cntFs_zero (fun x hx => (hk.kid (List.mem_of_mem_eraseIdx hx)).zero), onC_on, onCs_zero (on_erase hi hoff2)]
          · have hx' : x ∈ n.kids.eraseIdx (pos (n.kids.map fb) (fbS rest)) := hx
            refine ⟨List.mem_of_mem_eraseIdx hx', ?_⟩
            rw [List.mem_eraseIdx_iff_getElem] at hx'
            obtain ⟨j, hj, h5, h6⟩ := hx'
            rw [← h6]
            exact hoff j hj h5
        · rw [es] at e1
          subst e1
          obtain ⟨h5, h6⟩ := h4 hfk hl (by rw [hks]; simp)
          have hqm : q ∈ m'.kids := by rw [hks]; simp
          obtain ⟨h7, h8⟩ := h6 q hqm
          have hj : cntF K (joinN m' q (ns 1).1) = 1 := by
            unfold joinN
            rw [cntF_new (hns 1), cntFs_zero (fun x hx => (((hk.kid hkm).kid h7).kid hx).zero)]
          have hjo : onC (joinN m' q (ns 1).1) (L rest) = 0 := by
            refine onC_off ?_
            show ¬ L (m'.label ++ q.label) <+: L rest
            rw [L_append, h3, e3]
            intro h
            exact h8 ((List.prefix_append_right_inj _).1 h)
          refine ⟨1, by omega, ?_, rfl, fun hfn hnl hlen => ?_⟩
          · rw [show putKid n.kids (pos (n.kids.map fb) (fbS rest)) (some (joinN m' q (ns 1).1)) = n.kids.set (pos (n.kids.map fb) (fbS rest)) (joinN m' q (ns 1).1) from rfl, cntF_new (hns 0), cnt_set (fun x hx => (hk.kid hx).zero) hi, onC_on, on_set hi hoff2, hj, hjo]
          · exfalso
            have hlen' : (n.kids.set (pos (n.kids.map fb) (fbS rest)) (joinN m' q (ns 1).1)).length ≤ 1 := hlen
            rw [List.length_set] at hlen'
            rcases hfn with hfn | hfn
            · rw [show n.leaf = none from hnl] at hfn; cases hfn
            · omega
end Go.Proofs.Ytjhgknagmiekeaa.T
set_option linter.unusedVariables false
set_option linter.unusedSimpArgs false
namespace Go.Proofs.Ytjhgknagmiekeaa.T
mutual
theorem cnt_full : ∀ (n : Nd) (p : List UInt8), Full n → Br n → cntN n + 1 ≤ 2 * (ents p n).length
  | .mk b label leaf kids mark, p, hf, hb => by
    have h := cnt_fulls kids (p ++ L label) hb.parts
    rw [ents_eq, List.length_append, List.length_map, cntN]
    show 1 + cntNs kids + 1 ≤ 2 * (leaf.toList.length + (entss (p ++ L label) kids).length)
    rcases hf with hf | hf
    · have : leaf.isSome = true := hf
      cases leaf with
      | none => cases this
      | some l => simp; omega
    · have : 2 ≤ kids.length := hf
      omega
theorem cnt_fulls : ∀ (ks : List Nd) (p : List UInt8), Brs ks → cntNs ks + ks.length ≤ 2 * (entss p ks).length
  | [], p, _ => by simp [cntNs]
  | n :: r, p, hb => by
    obtain ⟨h1, h2⟩ := hb.mem n (by simp)
    have h3 : Brs r := Brs.of (fun k hk => hb.mem k (by simp [hk]))
    have g1 := cnt_full n p h1 h2
    have g2 := cnt_fulls r p h3
    rw [entss, cntNs, List.length_append, List.length_cons]
    omega
end
theorem cnt_bound {root : Nd} (h : Fine root) : cntN root ≤ 2 * (All root).length + 1 := by
  have h1 := cnt_fulls root.kids ([] ++ L root.label) h.br.parts
  rw [cntN_eq, show All root = ents [] root from rfl, ents_eq, List.length_append]
  omega
end Go.Proofs.Ytjhgknagmiekeaa.T
set_option linter.unusedVariables false
set_option linter.unusedSimpArgs false
namespace Go.Proofs.Ytjhgknagmiekeaa.T
def wayL (k : ByteArray) : Nat → Option Nd → Nat → List (Nd × Nat)
  | 0, _, _ => []
  | _ + 1, none, _ => []
  | f + 1, some n, a => (n, a + n.label.size) :: wayL k f (downN n (k.extract (a + n.label.size) k.size)) (a + n.label.size)
theorem wayL_none (k : ByteArray) (f a : Nat) : wayL k f none a = [] := by cases f <;> rfl
theorem wayF_list {σ : Type} (step : σ → Nd → Nat → σ) (k : ByteArray) : ∀ (f : Nat) (o : Option Nd) (a : Nat) (s : σ), wayF step k f o a s = (wayL k f o a).foldl (fun s p => step s p.1 p.2) s
  | 0, _, _, _ => rfl
  | _ + 1, none, _, _ => rfl
  | f + 1, some n, a, s => by
    unfold wayF wayL
    rw [List.foldl_cons]
    exact wayF_list step k f _ _ _
def onR (n : Nd) (R : List UInt8) (b j : Nat) : Option (Nd × Nat) := (nodeT n (R.take j)).map fun x => (x, b + j)
theorem filterMap_head {β : Type} (g : Nat → Option β) (y : β) (A : Nat) (hA : 0 < A) (h0 : g 0 = some y) (h : ∀ j, 0 < j → j < A → g j = none) : (List.range A).filterMap g = [y] := by
  obtain ⟨m, rfl⟩ : ∃ m, A = m + 1 := ⟨A - 1, by omega⟩
  rw [List.range_succ_eq_map, List.filterMap_cons, h0]
  show y :: _ = _
  rw [List.filterMap_map]
  congr 1
  refine List.filterMap_eq_nil_iff.2 (fun j hj => ?_)
  have := List.mem_range.1 hj
  exact h (j + 1) (by omega) (by omega)
theorem fm_congr {α β : Type} {f g : α → Option β} : ∀ {l : List α}, (∀ x ∈ l, f x = g x) → l.filterMap f = l.filterMap g
  | [], _ => rfl
  | x :: l, h => by rw [List.filterMap_cons, List.filterMap_cons, h x List.mem_cons_self, fm_congr (fun y hy => h y (List.mem_cons_of_mem _ hy))]
theorem way_stop (n : Nd) (R : List UInt8) (b : Nat) (h : ∀ j, 0 < j → j ≤ R.length → nodeT n (R.take j) = none) : (List.range (R.length + 1)).filterMap (onR n R b) = [(n, b)] :=
  filterMap_head _ _ _ (by omega) (by unfold onR; rw [List.take_zero, nodeT_nil]; rfl) (fun j h1 h2 => by unfold onR; rw [h j h1 (by omega)]; rfl)
theorem way_nodes (k : ByteArray) : ∀ (f : Nat) (n : Nd) (a : Nat), Ok n → k.size + 1 < f + a + n.label.size → a + n.label.size ≤ k.size →
    wayL k f (some n) a = (List.range (((L k).drop (a + n.label.size)).length + 1)).filterMap (onR n ((L k).drop (a + n.label.size)) (a + n.label.size)) := by
  intro f
  induction f with
  | zero => intro n a _ h1 h2; omega
  | succ f ih =>
    intro n a ho h1 h2
    obtain ⟨a2, ea⟩ : ∃ a2, a + n.label.size = a2 := ⟨_, rfl⟩
    unfold wayL
    rw [ea]
    have hsz : (k.extract a2 k.size).size = k.size - a2 := by simp only [ByteArray.size_extract]; omega
    have hRl : ((L k).drop a2).length = k.size - a2 := by rw [List.length_drop, L_len]
    by_cases hend : a2 = k.size
    · have e1 : downN n (k.extract a2 k.size) = none := by unfold downN; rw [if_pos (by omega)]
      rw [e1, wayL_none]
      exact (way_stop n _ a2 (fun j h3 h4 => by omega)).symm
    · have e1 := downN_eq n ho (k.extract a2 k.size) (by omega)
      rw [L_tail] at e1
      obtain ⟨R, eR⟩ : ∃ R, (L k).drop a2 = R := ⟨_, rfl⟩
      rw [eR] at e1 hRl ⊢
      have hF : ∀ j, 0 < j → j ≤ R.length → nodeT n (R.take j) = (kidT n.kids (hd R)).bind (beneath (R.take j)) := fun j h3 h4 => by
        rw [nodeT_eq _ _ (fun e => by have := congrArg List.length e; rw [List.length_take, List.length_nil] at this; omega), hd_take R j h3]
      cases ek : kidT n.kids (hd R) with
      | none =>
        rw [ek] at e1 hF
        have e2 : downN n (k.extract a2 k.size) = none := e1
        rw [e2, wayL_none]
        exact (way_stop n R a2 (fun j h3 h4 => by rw [hF j h3 h4]; rfl)).symm
      | some m =>
        rw [ek] at e1 hF
        simp only [Option.bind_some] at e1 hF
        have hm := (kidT_some ek).1
        have hpos := ho.parts.2.1 m hm
        have hml : (L m.label).length = m.label.size := L_len _
        by_cases hp : L m.label <+: R
        · rw [if_pos hp] at e1
          have hle := hp.length_le
          rw [hml] at hle
          rw [e1]
          have hI := ih m a2 (ho.parts.2.2.get m hm) (by omega) (by omega)
          have eR2 : (L k).drop (a2 + m.label.size) = R.drop m.label.size := by rw [← eR, List.drop_drop]
          rw [eR2] at hI
          have hRd : (R.drop m.label.size).length = R.length - m.label.size := List.length_drop
          have hsmall : ∀ j, 0 < j → j < m.label.size → nodeT n (R.take j) = none := fun j h3 h4 => by
            rw [hF j h3 (by omega)]
            unfold beneath
            rw [if_neg (fun e => by have := e.2.length_le; rw [hml, List.length_take] at this; omega)]
          have hbig : ∀ j, j ≤ R.length - m.label.size → nodeT n (R.take (m.label.size + j)) = nodeT m ((R.drop m.label.size).take j) := fun j h3 => by
            rw [hF _ (by omega) (by omega)]
            unfold beneath
            have hpre : L m.label <+: R.take (m.label.size + j) := by
              obtain ⟨t, ht⟩ := hp
              rw [← ht, ← hml, List.take_length_add_append]
              exact List.prefix_append _ _
            rw [if_pos ⟨hpos, hpre⟩]
            congr 1
            rw [List.drop_take]
            congr 1
            omega
          obtain ⟨D, eD⟩ : ∃ D, (R.drop m.label.size).length + 1 = D := ⟨_, rfl⟩
          rw [hI, eD, show R.length + 1 = m.label.size + D from by omega, List.range_add, List.filterMap_append, filterMap_head (onR n R a2) (n, a2) m.label.size hpos (by unfold onR; rw [List.take_zero, nodeT_nil]; rfl) (fun j h3 h4 => by unfold onR; rw [hsmall j h3 h4]; rfl), List.filterMap_map]
          show _ :: _ = _ :: _
          congr 1
          refine fm_congr (fun j hj => ?_)
          have hj2 := List.mem_range.1 hj
          show onR m _ _ j = onR n R a2 (m.label.size + j)
          unfold onR
          rw [hbig j (by omega), Nat.add_assoc]
        · rw [if_neg hp] at e1
          rw [e1, wayL_none]
          refine (way_stop n R a2 (fun j h3 h4 => ?_)).symm
          rw [hF j h3 h4]
          unfold beneath
          rw [if_neg (fun e => hp (e.2.trans (List.take_prefix _ _)))]
theorem way_root {root : Nd} (h : Good root) (k : ByteArray) : wayL k (k.size + 2) (some root) 0 = (List.range (k.size + 1)).filterMap (onR root (L k) 0) := by
  have h1 := way_nodes k (k.size + 2) root 0 h.ok (by omega) (by have := h.top; omega)
  rw [h.top] at h1
  simp only [Nat.zero_add, List.drop_zero] at h1
  rw [h1, L_len]
theorem last_on (n : Nd) (R : List UInt8) : ∀ N : Nat, ∃ r, ((List.range (N + 1)).filterMap (onR n R 0)).foldl (fun _ p => p.2) 0 = r ∧ r ≤ N ∧ nodeT n (R.take r) ≠ none ∧ ∀ j, r < j → j ≤ N → nodeT n (R.take j) = none
  | 0 => ⟨0, by
    have e : (List.range (0 + 1)).filterMap (onR n R 0) = [(n, 0)] := filterMap_head _ _ _ (by omega) (by unfold onR; rw [List.take_zero, nodeT_nil]; rfl) (fun j h1 h2 => by omega)
    rw [e]; rfl, Nat.le_refl _, by rw [List.take_zero, nodeT_nil]; simp, fun j h1 h2 => by omega⟩
  | N + 1 => by
    obtain ⟨r, h1, h2, h3, h4⟩ := last_on n R N
    rw [List.range_succ, List.filterMap_append, List.foldl_append, h1]
    cases e : nodeT n (R.take (N + 1)) with
    | none =>
      refine ⟨r, ?_, by omega, h3, fun j h5 h6 => ?_⟩
      · rw [List.filterMap_cons, show onR n R 0 (N + 1) = none from by unfold onR; rw [e]; rfl]; rfl
      · by_cases h7 : j = N + 1
        · rw [h7]; exact e
        · exact h4 j h5 (by omega)
    | some x =>
      refine ⟨N + 1, ?_, Nat.le_refl _, by rw [e]; simp, fun j h5 h6 => by omega⟩
      rw [List.filterMap_cons, show onR n R 0 (N + 1) = some (x, N + 1) from by unfold onR; rw [e, Nat.zero_add]; rfl]; rfl
theorem reach_eq {root : Nd} (h : Good root) (k : ByteArray) : reachN root k ≤ k.size ∧ nodeT root ((L k).take (reachN root k)) ≠ none ∧ ∀ j, reachN root k < j → j ≤ k.size → nodeT root ((L k).take j) = none := by
  obtain ⟨r, h1, h2, h3, h4⟩ := last_on root (L k) k.size
  have e : reachN root k = r := by
    unfold reachN
    rw [wayF_list, way_root h, ← h1]
    rfl
  rw [e]
  exact ⟨h2, h3, h4⟩
end Go.Proofs.Ytjhgknagmiekeaa.T
set_option linter.unusedVariables false
set_option linter.unusedSimpArgs false
namespace Go.Proofs.Ytjhgknagmiekeaa.T
open Go.RowKit Go.Lib Go.Proofs Go.Proofs.YtjhgknagmiekeaaW.PrintWords
theorem NdAt.marked {w : World} {n : Nd} (h : NdAt w n) : ∃ mb, n.mark = ptr mb := by
  cases n; unfold NdAt at h; exact h.2.2.2
set_option maxHeartbeats 4000000 in
set_option maxRecDepth 100000 in
theorem shaped_self (w : World) (n : Nd) (hn : NdAt w n) (ho : Ok n) (h : n.leaf.isSome = true ∨ 1 < n.kids.length) :
    Calls Try.prog 126 #[ptr n.b] w fun e w' => e = .returned (ptr n.b) ∧ w' = w := by
  obtain ⟨kv, hb, hr, hl, hk⟩ := hn.parts
  have hfew := ho.few
  cases e : n.leaf with
  | some l =>
    have c1 : w.cell? ⟨n.b, 1, none⟩ = some (.pointer (some ⟨l.b, 0, none⟩)) := by rw [blk_cell hb, e]; rfl
    clear hb hr hl hk hn ho h e
    unfold ptr
    go_enter Try.func126, Try.ntmps126
    go_wp2_with fail
    go_ret
    exact ⟨rfl, rfl⟩
  | none =>
    have hlen : 1 < n.kids.length := h.resolve_left (by rw [e]; simp)
    have c1 : w.cell? ⟨n.b, 1, none⟩ = some (.pointer none) := by rw [blk_cell hb, e]; rfl
    obtain ⟨A, c, rfl, _⟩ := hr.open
    have elen : (ptrs n.kids).length = n.kids.length := by simp [ptrs]
    rw [elen] at hb
    have c2 : w.cell? ⟨n.b, 2, none⟩ = some (.slice A n.kids.length c) := by rw [blk_cell hb]; rfl
    obtain ⟨len, hlen'⟩ : ∃ len, n.kids.length = len := ⟨_, rfl⟩
    rw [hlen'] at c2 hlen
    have hI : (1 : Int) < (len : Int) := by omega
    clear hb hr hl hk hn ho h e elen hfew hlen'
    unfold ptr
    go_enter Try.func126, Try.ntmps126
    go_wp2_with fail
    go_ret
    exact ⟨rfl, rfl⟩
set_option maxHeartbeats 4000000 in
set_option maxRecDepth 100000 in
theorem shaped_gone (w : World) (n : Nd) (hn : NdAt w n) (h1 : n.leaf = none) (h2 : n.kids = []) :
    Calls Try.prog 126 #[ptr n.b] w fun e w' => e = .returned (.pointer none) ∧ w' = w := by
  obtain ⟨kv, hb, hr, hl, hk⟩ := hn.parts
  have c1 : w.cell? ⟨n.b, 1, none⟩ = some (.pointer none) := by rw [blk_cell hb, h1]; rfl
  obtain ⟨A, c, rfl, _⟩ := hr.open
  have elen : (ptrs n.kids).length = 0 := by simp [ptrs, h2]
  rw [elen] at hb
  have c2 : w.cell? ⟨n.b, 2, none⟩ = some (.slice A 0 c) := by rw [blk_cell hb]; rfl
  clear hb hr hl hk hn h1 h2 elen
  unfold ptr
  go_enter Try.func126, Try.ntmps126
  go_wp2_with fail
  go_ret
  exact ⟨rfl, rfl⟩
set_option maxHeartbeats 4000000 in
set_option maxRecDepth 100000 in
theorem shaped_one (wB w : World) (hkB : Kept wB w) (n k : Nd) (hnB : NdAt wB n) (h1 : n.leaf = none) (h2 : n.kids = [k]) (hs : n.label.size + k.label.size < 4000000000000) :
    Calls Try.prog 126 #[ptr n.b] w fun e w' => e = .returned (ptr w.heap.size) ∧ (∀ W, Kept wB W → (∀ x, w.heap.size ≤ x → x < w'.heap.size → W.heap[x]? = w'.heap[x]?) → NdAt W (joinN n k w.heap.size)) ∧ w'.heap.size = w.heap.size + 1 ∧ Below w.heap.size w w' := by
  obtain ⟨kv, hb0, hr0, hl, hk⟩ := hnB.parts
  have hb := hkB.at hb0
  have hr := hr0.keep hkB
  have c0 : w.cell? ⟨n.b, 0, none⟩ = some (.string n.label) := by rw [blk_cell hb]; rfl
  have c1 : w.cell? ⟨n.b, 1, none⟩ = some (.pointer none) := by rw [blk_cell hb, h1]; rfl
  obtain ⟨A, c, rfl, hrc⟩ := hr.open
  have elen : (ptrs n.kids).length = 1 := by simp [ptrs, h2]
  obtain ⟨ad, rfl, hca⟩ := hrc 0 (by omega)
  have ep : (ptrs n.kids)[0] = ptr k.b := by simp [ptrs, h2]
  rw [ep] at hca
  rw [elen] at hb
  have c2 : w.cell? ⟨n.b, 2, none⟩ = some (.slice (some ad) 1 c) := by rw [blk_cell hb]; rfl
  have hkn : NdAt wB k := by have := hk.get 0 (by rw [h2]; simp); simpa [h2] using this
  obtain ⟨kv2, hb2', hr2, hl2, hk2⟩ := hkn.parts
  have hb2 := hkB.at hb2'
  have d0 : w.cell? ⟨k.b, 0, none⟩ = some (.string k.label) := by rw [blk_cell hb2]; rfl
  obtain ⟨lp, elp⟩ := leafPtr_form k.leaf
  have d1 : w.cell? ⟨k.b, 1, none⟩ = some (.pointer lp) := by rw [blk_cell hb2, elp]; rfl
  obtain ⟨mb, emb⟩ := hkn.marked
  have d3 : w.cell? ⟨k.b, 3, none⟩ = some (.pointer (some ⟨mb, 0, none⟩)) := by rw [blk_cell hb2, emb]; rfl
  have d2 : w.cell? ⟨k.b, 2, none⟩ = some kv2 := by rw [blk_cell hb2]; rfl
  have ca0 : w.cell? ad = some (.pointer (some ⟨k.b, 0, none⟩)) := hca
  have H := Aside0.mk (And.intro elp (And.intro emb (And.intro hr2 (And.intro hl2 hk2))))
  have HS := Aside0.mk (And.intro hs hkB)
  obtain ⟨A2, cc2, rfl, _⟩ := hr2.open
  have hz1 : n.label.size + k.label.size ≤ 9223372036854775807 := by omega
  have hadd := fun w1 : World => run_string_add_sum (P := Try.prog) w1 n.label k.label hz1
  clear hz1
  clear hb hr hl hk hnB h1 h2 elen hrc ep hca hkn hb2 hr2 hl2 hk2 elp emb hs hb0 hr0 hb2' hkB
  unfold ptr
  go_enter Try.func126, Try.ntmps126
  go_wp2_with fail
  go_region_held3 (fun w' => w'.cell? ⟨n.b, 0, none⟩ = some (.string n.label) ∧ w'.cell? ⟨k.b, 0, none⟩ = some (.string k.label) ∧ w'.cell? ⟨k.b, 1, none⟩ = some (.pointer lp) ∧ w'.cell? ⟨k.b, 2, none⟩ = some (.slice A2 (ptrs k.kids).length cc2) ∧ w'.cell? ⟨k.b, 3, none⟩ = some (.pointer (some ⟨mb, 0, none⟩)))
    (first | exact ⟨c0, d0, d1, d2, d3⟩ | exact ⟨cellA c0, cellA d0, cellA d1, cellA d2, cellA d3⟩)
    (fail)
  go_wp2_with fail
  go_ret
  obtain ⟨elp, emb, hr2, hl2, hk2⟩ := H.out
  have B := (Below.refl w.heap.size w).alloc (Nat.le_refl _) (.cells #[.string (n.label ++ k.label), .pointer lp, .slice A2 (ptrs k.kids).length cc2, .pointer (some ⟨mb, 0, none⟩)] 117)
  have hsz : (w.alloc (.cells #[.string (n.label ++ k.label), .pointer lp, .slice A2 (ptrs k.kids).length cc2, .pointer (some ⟨mb, 0, none⟩)] 117)).drew.heap.size = w.heap.size + 1 := by
    show (w.alloc _).heap.size = _
    rw [World.size_alloc]
  refine ⟨rfl, fun W hW hA => ?_, hsz, ⟨B.os, B.tape, B.output, B.size, B.block⟩⟩
  refine NdAt.mk (kv := .slice A2 (ptrs k.kids).length cc2) ?_ (hr2.keep hW) (hl2.keep hW) (NdsAt.keep hW _ hk2) ⟨mb, emb⟩
  rw [elp, emb, hA w.heap.size (Nat.le_refl _) (by omega)]
  exact heap_alloc_new w _
theorem shaped_any (n : Nd) (c : Nat) : (∃ k, n.kids = [k] ∧ shapedN n c = some (joinN n k c)) ∨ ∀ x, shapedN n x = shapedN n c := by
  rcases shaped_cases n c with ⟨e, h⟩ | ⟨hl, hk, e⟩ | ⟨k, hl, hk, e⟩
  · refine .inr fun x => ?_
    rw [e]; unfold shapedN; rw [if_pos h]
  · refine .inr fun x => ?_
    rw [e]; unfold shapedN; rw [hl, hk]; rfl
  · exact .inl ⟨k, hk, e⟩
theorem shapedC (wB w : World) (hkB : Kept wB w) (n : Nd) (hnB : NdAt wB n) (ho : Ok n) (hf : Fits n 3999999999999) :
    Calls Try.prog 126 #[ptr n.b] w fun e w' => e = .returned (optPtr (shapedN n w.heap.size)) ∧ (∀ W, Kept wB W → (∀ x, w.heap.size ≤ x → x < w'.heap.size → W.heap[x]? = w'.heap[x]?) → ∀ s, shapedN n w.heap.size = some s → NdAt W s) ∧
      ((∃ k, n.kids = [k] ∧ shapedN n w.heap.size = some (joinN n k w.heap.size)) → w.heap.size < w'.heap.size) ∧ Below w.heap.size w w' := by
  have hn := NdAt.keep hkB n hnB
  rcases shaped_cases n w.heap.size with ⟨e, h⟩ | ⟨hl, hk, e⟩ | ⟨k, hl, hk, e⟩
  · rw [e]
    refine (shaped_self w n hn ho h).mono ?_
    rintro e w' ⟨rfl, rfl⟩
    refine ⟨rfl, fun W hW _ s e => (by cases e; exact NdAt.keep hW n hnB), ?_, Below.refl _ _⟩
    rintro ⟨k, hk, e⟩
    obtain ⟨kv, hb, _⟩ := hn.parts
    have hlt := (Array.getElem?_eq_some_iff.1 hb).1
    have := congrArg (Option.map Nd.b) e
    simp [joinN, Nd.b] at this
    cases n with
    | mk b _ _ _ _ => simp [Nd.b] at this hlt; omega
  · rw [e]
    refine (shaped_gone w n hn hl hk).mono ?_
    rintro e w' ⟨rfl, rfl⟩
    exact ⟨rfl, fun W _ _ s e => (by cases e), fun ⟨k, _, e⟩ => (by cases e), Below.refl _ _⟩
  · rw [e]
    have h2 := hf.parts
    have h3 := (h2.2.mem k (by rw [hk]; simp)).parts
    refine (shaped_one wB w hkB n k hnB hl hk (by omega)).mono ?_
    rintro e w' ⟨rfl, h4, h5, h6⟩
    exact ⟨rfl, fun W hW hA s e => (by cases e; exact h4 W hW hA), fun _ => by omega, h6⟩
end Go.Proofs.Ytjhgknagmiekeaa.T
set_option linter.unusedVariables false
set_option linter.unusedSimpArgs false
namespace Go.Proofs.Ytjhgknagmiekeaa.T
open Go.Shelf
def del_ren : Go.Shelf.Ren := ⟨fun | 45 => 127 | n => n, fun | 22 => 115 | 23 => 58 | n => n, fun | n => n⟩
theorem delLays : Go.Proofs.SlLaysE.n45 Try.prog del_ren := {
  mixed := by kernel_rfl
  f45 := ⟨Try.f127.name, by decide, Try.func127.trans (congrArg some (by kernel_rfl))⟩
  t0 := Try.underlying0
  a0 := Try.isAgg0
  z0 := Try.sizeOf0
  v0 := Try.zeroValue0
  t3 := Try.underlying3
  a3 := Try.isAgg3
  z3 := Try.sizeOf3
  v3 := Try.zeroValue3
  t4 := Try.underlying4
  a4 := Try.isAgg4
  z4 := Try.sizeOf4
  v4 := Try.zeroValue4
  t22 := Try.underlying115
  a22 := Try.isAgg115
  z22 := Try.sizeOf115
  v22 := Try.zeroValue115
  a23 := Try.isAgg58
  z23 := Try.sizeOf58 }
open Go.RowKit Go.Lib Go.Proofs Go.Proofs.YtjhgknagmiekeaaW.PrintWords
def spot (k : Nd) : Option Addr := some ⟨k.b, 0, none⟩
theorem ptrs_spot (ks : List Nd) : ptrs ks = (ks.map spot).map Value.pointer := by simp [ptrs, spot, ptr]
theorem delRow (w : World) (base g n cap i : Nat) (ks : List Nd) (hown : w.ownsRow base 58 1 (.slice (some ⟨g, 0, none⟩) n cap) n (ptrs ks)) (hi : i < n) :
    Calls Try.prog 127 #[.slice (some ⟨g, 0, none⟩) n cap, .int .i64 i, .int .i64 ((i : Int) + 1)] w fun e w' => e = .returned (.slice (some ⟨g, 0, none⟩) (n - 1) cap) ∧ w'.ownsRow base 58 1 (.slice (some ⟨g, 0, none⟩) (n - 1) cap) (n - 1) (ptrs (ks.eraseIdx i)) ∧ w.grownBy w' (some g) ∧ base ≤ g := by
  have hkl : ks.length = n := by have := hown.1; simpa [ptrs] using this
  rw [ptrs_spot] at hown
  obtain ⟨g', cap', e1, hb, hlt, hnc, hcm, hzl, hH⟩ := Go.Lib.holds_of_ownsRow (enc := Value.pointer) hown (by simp)
  injection e1 with e1 _ e3
  injection e1 with e1
  injection e1 with e1
  subst e1; subst e3
  obtain ⟨i0, hi0, h0, h1, h2⟩ := info_parts infoP
  have hsz : (ks.map spot).toArray.size = n := by simp [hkl]
  have q := AnyE.slices_Delete delLays Value.pointer (fun _ => rfl) none (show ∀ w, (zeroValue 58).run Try.prog w = .ok (.pointer none) w from Try.zeroValue58) i0 hi0 h1 g 0 cap i (i + 1) (ks.map spot).toArray w hH (by rw [hsz]; exact hnc) (by unfold maxLen at hcm; exact hcm) (by omega) (by rw [hsz]; omega)
  rw [hsz, show i + 1 - i = 1 by omega] at q
  refine Calls.mono (show Calls Try.prog 127 #[.slice (some ⟨g, 0, none⟩) n cap, .int .i64 i, .int .i64 ((i : Int) + 1)] w _ from q) ?_
  rintro e w' ⟨rfl, m, rfl⟩
  have hl2 : ((ks.map spot).take i ++ (ks.map spot).drop (i + 1) ++ List.replicate 1 (none : Option Addr)).length = n := by
    simp only [List.length_append, List.length_take, List.length_drop, List.length_map, List.length_replicate]
    omega
  have ho := Go.Lib.ownsRow_putRow (q := m) (k := n - 1) hown hl2 (by omega)
  refine ⟨rfl, ?_, ⟨rfl, rfl, rfl, ?_, fun k hk hn => ?_⟩, hb⟩
  · have e2 : (((ks.map spot).take i ++ (ks.map spot).drop (i + 1) ++ List.replicate 1 (none : Option Addr)).take (n - 1)).map Value.pointer = ptrs (ks.eraseIdx i) := by
      rw [List.take_left' (by simp only [List.length_append, List.length_take, List.length_drop, List.length_map]; omega), ptrs_spot, List.eraseIdx_eq_take_drop_succ]
      simp
    rw [← e2]
    exact ho
  · simp [Go.Sort.putRow, Go.Sort.mapBlock, Go.Sort.ahead]
  · have : k ≠ g := fun e => hn (by rw [e])
    simp [Go.Sort.putRow, Go.Sort.mapBlock, Go.Sort.ahead, Array.getElem?_modify, show g ≠ k by omega]
end Go.Proofs.Ytjhgknagmiekeaa.T
set_option linter.unusedVariables false
set_option linter.unusedSimpArgs false
namespace Go.Proofs.Ytjhgknagmiekeaa.T
open Go.RowKit Go.Lib Go.Proofs Go.Proofs.YtjhgknagmiekeaaW.PrintWords
theorem find_rest0 {n : Nd} {rest : ByteArray} (h : rest.size = 0) : findT n (L rest) = n.leaf := by
  have e : L rest = [] := List.length_eq_zero_iff.1 (by rw [L_len]; omega)
  rw [e, findT_nil]
theorem down_cases {n : Nd} (ho : Ok n) {rest : ByteArray} (h0 : rest.size ≠ 0) :
    (downN n rest = none ∧ findT n (L rest) = none) ∨ ∃ k, downN n rest = some k ∧ k ∈ n.kids ∧ 0 < k.label.size ∧ k.label.size ≤ rest.size ∧ kidN n rest = some k ∧ findT n (L rest) = findT k (L (rest.extract k.label.size rest.size)) := by
  have hne : L rest ≠ [] := fun e => h0 (by rw [← L_len, e]; rfl)
  have hq := kidN_eq n ho rest
  have hdn := downN_eq n ho rest h0
  rw [findT_eq _ _ hne]
  cases e : kidT n.kids (hd (L rest)) with
  | none => rw [e] at hdn; exact .inl ⟨hdn, rfl⟩
  | some k =>
    rw [e] at hdn hq
    simp only [Option.bind_some] at hdn ⊢
    have hkm : k ∈ n.kids := (kidT_some e).1
    have hpos := ho.parts.2.1 k hkm
    unfold below
    by_cases hp : L k.label <+: L rest
    · rw [if_pos hp] at hdn
      rw [if_pos ⟨hpos, hp⟩]
      have hle := hp.length_le
      rw [L_len, L_len] at hle
      exact .inr ⟨k, hdn, hkm, hpos, hle, hq, by rw [L_tail]⟩
    · rw [if_neg hp] at hdn
      rw [if_neg (fun h => hp h.2)]
      exact .inl ⟨hdn, rfl⟩
set_option maxHeartbeats 4000000 in
set_option maxRecDepth 100000 in
theorem remove_none : ∀ (N : Nat) (rest : ByteArray), rest.size ≤ N → rest.size < 4000000000000 → ∀ (n : Nd) (w : World), NdAt w n → Ok n → findT n (L rest) = none →
    Calls Try.prog 90 #[ptr n.b, .string rest] w fun e w' => e = .returned (.tuple #[ptr n.b, .pointer none]) ∧ w' = w := by
  have empty : ∀ (rest : ByteArray) (n : Nd) (w : World), NdAt w n → rest.size = 0 → findT n (L rest) = none → Calls Try.prog 90 #[ptr n.b, .string rest] w fun e w' => e = .returned (.tuple #[ptr n.b, .pointer none]) ∧ w' = w := by
    intro rest n w hn h0 hf
    rw [find_rest0 h0] at hf
    obtain ⟨kv, hb, hr, hl, hk⟩ := hn.parts
    have c1 : w.cell? ⟨n.b, 1, none⟩ = some (.pointer none) := by rw [blk_cell hb, hf]; rfl
    have e0 := empty_of rest h0
    subst e0
    clear hn hb hr hl hk hf h0
    unfold ptr
    go_enter Try.func90, Try.ntmps90
    go_wp2_with fail
    go_ret2
    exact ⟨rfl, rfl⟩
  intro N
  induction N with
  | zero => intro rest hN hbg n w hn ho hf; exact empty rest n w hn (by omega) hf
  | succ N ih =>
    intro rest hN hbg n w hn ho hf
    by_cases h0 : rest.size = 0
    · exact empty rest n w hn h0 hf
    · have hne := full_of rest (by omega)
      have q1 := Aside0.mk (downC w n hn ho rest)
      rcases down_cases ho h0 with ⟨hd, _⟩ | ⟨k, hd, hkm, hpos, hle, _, hfk⟩
      · rw [hd] at q1
        clear hn ho hf hd ih empty
        unfold optPtr at q1
        unfold ptr at q1 ⊢
        go_enter Try.func90, Try.ntmps90
        go_wp2_with (go_at_call 121; refine q1.out.mono ?_; rintro e w1 ⟨rfl, rfl⟩)
        go_ret2
        exact ⟨rfl, rfl⟩
      · rw [hd] at q1
        rw [hfk] at hf
        obtain ⟨ii, hii, eii⟩ := List.getElem_of_mem hkm
        have hkn : NdAt w k := by rw [← eii]; exact hn.parts.choose_spec.2.2.2.get ii hii
        obtain ⟨kv2, hb2, _⟩ := hkn.parts
        have c0 : w.cell? ⟨k.b, 0, none⟩ = some (.string k.label) := by rw [blk_cell hb2]; rfl
        have q2 := Aside0.mk (ih (rest.extract k.label.size rest.size) (by simp only [ByteArray.size_extract]; omega) (by simp only [ByteArray.size_extract]; omega) k w hkn (ho.parts.2.2.get k hkm) hf)
        have hleI : (k.label.size : Int) ≤ (rest.size : Int) := by omega
        clear hn ho hf hd ih empty hkm hii eii hkn hb2 hfk
        unfold optPtr at q1
        unfold ptr at q1 q2 ⊢
        go_enter Try.func90, Try.ntmps90
        go_wp2_with (go_at_call 121; refine q1.out.mono ?_; rintro e w1 ⟨rfl, rfl⟩)
        go_wp2_with (go_at_call 90; refine q2.out.mono ?_; rintro e w1 ⟨rfl, rfl⟩)
        go_ret2
        exact ⟨rfl, rfl⟩
def Removed (w : World) (n : Nd) (rest : ByteArray) (l : Lf) (e : Ending) (w' : World) : Prop := ∃ m ns, e = .returned (.tuple #[ptr m.b, ptr l.b]) ∧ delN n rest ns = some (m, l) ∧ NdAt w' m ∧ SupOk w.heap.size w' ns ∧ Below w.heap.size w w'
set_option maxHeartbeats 4000000 in
set_option maxRecDepth 100000 in
theorem remove_here (n : Nd) (rest : ByteArray) (l : Lf) (w : World) (hn : NdAt w n) (ho : Ok n) (h0 : rest.size = 0) (hf : n.leaf = some l) :
    Calls Try.prog 90 #[ptr n.b, .string rest] w (Removed w n rest l) := by
  have q1 := Aside0.mk (fresh w n hn ho.few)
  obtain ⟨kv0, hb0, _, hlf, hks⟩ := hn.parts
  have c1 : w.cell? ⟨n.b, 1, none⟩ = some (.pointer (some ⟨l.b, 0, none⟩)) := by rw [blk_cell hb0, hf]; rfl
  have hnb : n.b < w.heap.size := (Array.getElem?_eq_some_iff.1 hb0).1
  have ed : ∀ ns, delN n rest ns = some (.mk (ns 0).1 n.label none n.kids (ns 0).2, l) := fun ns => by rw [delN, dif_pos h0, hf]; rfl
  have HN := Aside0.mk (And.intro hks (And.intro hnb ed))
  have e0 := empty_of rest h0
  subst e0
  clear hn ho h0 hf hb0 hlf hks hnb ed
  unfold ptr
  go_enter Try.func90, Try.ntmps90
  go_wp2_with (go_at_call 124; refine q1.out.mono ?_)
  rintro e w1 ⟨b, kv, m, rfl, hf⟩
  have HF := Aside0.mk hf
  have c1' := (Kept.of hf.kept).cell c1
  have k1 : w1.cell? ⟨b, 1, none⟩ = some (leafPtr n.leaf) := by rw [blk_cell hf.blk]; rfl
  obtain ⟨lp, elp⟩ := leafPtr_form n.leaf
  rw [elp] at k1
  have f1 : w1.frozen? ⟨b, 1, none⟩ = false := blk_frozen hf.blk 1
  have hbn : ¬ n.b = b := by have := hf.new; have := HN.out.2.1; omega
  have d1 := set_cell_ne (i := 1) (v := .pointer none) c1' hbn
  clear hf q1 elp
  unfold ptr
  go_wp2_with fail
  go_region
  go_wp2_with fail
  go_ret2
  have hf := HF.out
  obtain ⟨hks, hnb, ed⟩ := HN.out
  have KB : Below w.heap.size w ((w1.setCell ⟨b, 1, none⟩ (.pointer none)).drew) := by
    have h := kept_set hf.kept b hf.new 1 (.pointer none)
    exact ⟨h.os, h.tape, h.output, h.size, h.block⟩
  have hKK := Kept.of KB
  obtain ⟨c, hm, hc1, hc2, hc3⟩ := hf.mark
  have hcb : ∀ o t f x, w1.heap[x]? = some o → w1.heap[b]? = some (.cells t 117 f) → (∀ t f, o ≠ .cells t 117 f) → x ≠ b := fun o t f x h1 h2 h3 e => by
    rw [e, h2] at h1
    exact h3 _ _ (Option.some.inj h1).symm
  refine ⟨_, fun _ => (b, m), rfl, ed _, ?_, ⟨fun _ => ⟨hf.new, ?_⟩, fun _ => ⟨c, hm, hc1, ?_, ?_⟩⟩, KB⟩
  · refine NdAt.mk (kv := kv) ?_ ?_ (fun l e => by cases e) (NdsAt.keep hKK _ hks) ⟨_, hm⟩
    · exact heap_setCell w1 (g := b) (o := 1) (.pointer none) hf.blk
    · exact row_of_owns (owns_set hf.row hf.off 1 (.pointer none))
  · have := (Array.getElem?_eq_some_iff.1 hf.blk).1
    simpa [World.setCell] using this
  · have h := (Below.heap_setCell w1 ⟨b, 1, none⟩ (.pointer none) c (hcb _ _ _ c hc2 hf.blk (fun t f e => by cases e))).trans hc2
    exact h
  · have h := (Below.heap_setCell w1 ⟨b, 1, none⟩ (.pointer none) (c + 1) (hcb _ _ _ (c + 1) hc3 hf.blk (fun t f e => by unfold watchObj at e; cases e))).trans hc3
    exact h
end Go.Proofs.Ytjhgknagmiekeaa.T
set_option linter.unusedVariables false
set_option linter.unusedSimpArgs false
namespace Go.Proofs.Ytjhgknagmiekeaa.T
open Go.RowKit Go.Lib Go.Proofs Go.Proofs.YtjhgknagmiekeaaW.PrintWords
def nsDown (a b : Nat × Value) (ns : Sup) : Sup := fun j => if j = 0 then a else if j = 1 then b else ns (j - 2)
theorem nsDown_tail (a b : Nat × Value) (ns : Sup) : (fun j => nsDown a b ns (j + 2)) = ns := by
  funext j
  simp [nsDown]
theorem belowAt {w w1 w2 : World} (h : Below w.heap.size w w1) (h2 : Below w1.heap.size w1 w2) : Below w.heap.size w w2 :=
  h.trans ⟨h2.os, h2.tape, h2.output, h2.size, fun x hx => h2.block x (by have := h.size; omega)⟩
theorem size_setCell (w : World) (a : Addr) (v : Value) : (w.setCell a v).heap.size = w.heap.size := by simp [World.setCell]
theorem ns_close {w w1 w2 w4 : World} {n : Nd} {b x : Nat} {kv m : Value} {ns : Sup} (B1 : Below w.heap.size w w1) (hs : SupOk w.heap.size w1 ns) (hf : FreshAt w1 w2 n b kv m) (h24 : ∀ y o, w2.heap[y]? = some o → (y < w1.heap.size ∨ ∃ c, m = ptr (c + 1) ∧ (y = c ∨ y = c + 1)) → w4.heap[y]? = some o) (hsz : w2.heap.size ≤ w4.heap.size) (hx : w.heap.size ≤ x ∧ x < w4.heap.size) :
    SupOk w.heap.size w4 (nsDown (b, m) (x, m) ns) := by
  have hb := (Array.getElem?_eq_some_iff.1 hf.blk).1
  have s1 := B1.size
  have s2 := hf.kept.size
  have hm : NewMark w.heap.size w4 m := by
    obtain ⟨c, hm, hc1, hc2, hc3⟩ := hf.mark
    exact ⟨c, hm, by omega, h24 c _ hc2 (.inr ⟨c, hm, .inl rfl⟩), h24 (c + 1) _ hc3 (.inr ⟨c, hm, .inr rfl⟩)⟩
  refine ⟨fun j => ?_, fun j => ?_⟩
  · unfold nsDown
    split
    · exact ⟨by have := hf.new; show _ ≤ b; omega, by show b < _; omega⟩
    · split
      · exact hx
      · have := hs.new (j - 2); omega
  · unfold nsDown
    split
    · exact hm
    · split
      · exact hm
      · obtain ⟨c, e1, e2, e3, e4⟩ := hs.mark (j - 2)
        have l1 := (Array.getElem?_eq_some_iff.1 e3).1
        have l2 := (Array.getElem?_eq_some_iff.1 e4).1
        exact ⟨c, e1, e2, h24 c _ ((Kept.of hf.kept).at e3) (.inl l1), h24 (c + 1) _ ((Kept.of hf.kept).at e4) (.inl l2)⟩
theorem fresh_apart {w1 w2 : World} {n : Nd} {b : Nat} {kv m : Value} (hf : FreshAt w1 w2 n b kv m) {g : Nat} {cur : Array Value} (hgb : w1.heap.size ≤ g) (hgg : w2.heap[g]? = some (.cells cur 58 (0, 0))) (y : Nat) (o : Obj) (hy : w2.heap[y]? = some o) (h : y < w1.heap.size ∨ ∃ c, m = ptr (c + 1) ∧ (y = c ∨ y = c + 1)) : y ≠ g ∧ y ≠ b := by
  have hb := hf.new
  rcases h with h | ⟨c, hm, h⟩
  · omega
  · obtain ⟨c', hm', hc1, hc2, hc3⟩ := hf.mark
    have e : c = c' := by
      rw [hm] at hm'
      unfold ptr at hm'
      injection hm' with e
      injection e with e
      injection e with e
      omega
    subst e
    have hbk := hf.blk
    constructor
    · intro e; subst e
      rcases h with h | h
      · subst h; rw [hc2] at hgg; cases hgg
      · subst h; rw [hc3] at hgg; unfold watchObj at hgg; cases hgg
    · intro e; subst e
      rcases h with h | h
      · subst h; rw [hc2] at hbk; cases hbk
      · subst h; rw [hc3] at hbk; unfold watchObj at hbk; cases hbk
theorem owns_keep {w w' : World} {base n : Nat} {v : Value} {ps : List Value} (h : w.ownsRow base 58 1 v n ps) (k : Kept w w') : w'.ownsRow base 58 1 v n ps := by
  refine ⟨h.1, ?_⟩
  rcases h.2 with h0 | ⟨g, cap, cur, rfl, hb, hg, rest⟩
  · exact .inl h0
  · exact .inr ⟨g, cap, cur, rfl, hb, k.at hg, rest⟩
theorem close_set {wB w2 w4 w5 : World} {n s : Nd} {b g cap i : Nat} {cur : Array Value} {m : Value} (hn : NdAt wB n) (K2 : Kept wB w2) (hBs : wB.heap.size ≤ w2.heap.size) (hf : FreshAt w2 w4 n b (.slice (some ⟨g, 0, none⟩) n.kids.length cap) m)
    (hgb : w2.heap.size ≤ g) (hgg : w4.heap[g]? = some (.cells cur 58 (0, 0))) (hgc : ∀ j, j < n.kids.length → cur[j]? = (ptrs n.kids)[j]?) (hgn : n.kids.length ≤ cap) (hgm : cap ≤ maxLen) (hgs : cur.size = cap) (B5 : Below w4.heap.size w4 w5)
    (hs : ∀ W, Kept w2 W → (∀ x, w4.heap.size ≤ x → x < w5.heap.size → W.heap[x]? = w5.heap[x]?) → NdAt W s) (hi : i < n.kids.length) :
    NdAt (w5.setCell ⟨g, i, none⟩ (ptr s.b)) (.mk b n.label n.leaf (n.kids.set i s) m) ∧ Below w2.heap.size w2 (w5.setCell ⟨g, i, none⟩ (ptr s.b)) ∧ (∀ y o, w4.heap[y]? = some o → y ≠ g → (w5.setCell ⟨g, i, none⟩ (ptr s.b)).heap[y]? = some o) := by
  have hB : Below w2.heap.size w2 (w5.setCell ⟨g, i, none⟩ (ptr s.b)) := kept_set (belowAt hf.kept B5) g hgb i (ptr s.b)
  have hK := Kept.of hB
  have hbg : b ≠ g := fun e => by have h := hf.blk; rw [e, hgg] at h; cases h
  have up : ∀ y o, w4.heap[y]? = some o → y ≠ g → (w5.setCell ⟨g, i, none⟩ (ptr s.b)).heap[y]? = some o := fun y o h1 h2 => set_at ((Kept.of B5).at h1) h2
  obtain ⟨kv0, hb0, _, hlf, hks⟩ := hn.parts
  obtain ⟨c, hm, _⟩ := hf.mark
  have KB : Kept wB (w5.setCell ⟨g, i, none⟩ (ptr s.b)) := K2.trans hK hBs
  have hgl : g < w4.heap.size := (Array.getElem?_eq_some_iff.1 hgg).1
  have hpl : (ptrs n.kids).length = n.kids.length := by simp [ptrs]
  refine ⟨NdAt.mk (kv := .slice (some ⟨g, 0, none⟩) n.kids.length cap) (up b _ hf.blk hbg) ?_ (hlf.keep KB) ((NdsAt.keep KB _ hks).set i s (hs _ hK (fun x h1 h2 => ?_))) ⟨_, hm⟩, hB, up⟩
  · rw [ptrs_set]
    refine row_of_owns (owns_of (base := w2.heap.size) (n := n.kids.length) hgb (heap_setCell w5 (g := g) (o := i) (ptr s.b) ((Kept.of B5).at hgg)) hgn hgm (by simpa using hgs) (by simp [hpl]) ?_)
    intro j hj
    by_cases e : j = i
    · subst e
      rw [Array.getElem?_setIfInBounds_self_of_lt (by omega), List.getElem?_set_self (by omega)]
    · rw [Array.getElem?_setIfInBounds_ne (by omega), List.getElem?_set_ne (by omega), hgc j hj]
  · exact Below.heap_setCell w5 ⟨g, i, none⟩ (ptr s.b) x (by show x ≠ g; omega)
theorem close_del {wB w2 w4 w5 w6 : World} {n : Nd} {b g cap i : Nat} {cur : Array Value} {m : Value} (hn : NdAt wB n) (K2 : Kept wB w2) (hBs : wB.heap.size ≤ w2.heap.size) (hf : FreshAt w2 w4 n b (.slice (some ⟨g, 0, none⟩) n.kids.length cap) m)
    (hgb : w2.heap.size ≤ g) (hgg : w4.heap[g]? = some (.cells cur 58 (0, 0))) (B5 : Below w4.heap.size w4 w5) (o6 : w6.ownsRow w2.heap.size 58 1 (.slice (some ⟨g, 0, none⟩) (n.kids.length - 1) cap) (n.kids.length - 1) (ptrs (n.kids.eraseIdx i))) (g6 : w5.grownBy w6 (some g)) (hi : i < n.kids.length) :
    NdAt (w6.setCell ⟨b, 2, none⟩ (.slice (some ⟨g, 0, none⟩) (n.kids.length - 1) cap)) (.mk b n.label n.leaf (n.kids.eraseIdx i) m) ∧ Below w2.heap.size w2 (w6.setCell ⟨b, 2, none⟩ (.slice (some ⟨g, 0, none⟩) (n.kids.length - 1) cap)) ∧
      (∀ y o, w4.heap[y]? = some o → y ≠ g → y ≠ b → (w6.setCell ⟨b, 2, none⟩ (.slice (some ⟨g, 0, none⟩) (n.kids.length - 1) cap)).heap[y]? = some o) := by
  have hbg : b ≠ g := fun e => by have h := hf.blk; rw [e, hgg] at h; cases h
  have hs2 := hf.kept.size
  have hs5 := B5.size
  have B6 : Below w2.heap.size w2 w6 := (belowAt hf.kept B5).trans (below_grown g6 (by omega) (fun k hk => by cases hk; exact hgb))
  have hB := kept_set B6 b hf.new 2 (.slice (some ⟨g, 0, none⟩) (n.kids.length - 1) cap)
  have hK := Kept.of hB
  have KB := K2.trans hK hBs
  have up6 : ∀ y o, w4.heap[y]? = some o → y ≠ g → w6.heap[y]? = some o := fun y o h1 h2 => grown_at g6 ((Kept.of B5).at h1) (fun e => h2 (by cases e; rfl))
  obtain ⟨kv0, hb0, _, hlf, hks⟩ := hn.parts
  obtain ⟨c, hm, _⟩ := hf.mark
  refine ⟨NdAt.mk (kv := .slice (some ⟨g, 0, none⟩) (n.kids.length - 1) cap) (heap_setCell w6 (g := b) (o := 2) _ (up6 b _ hf.blk hbg)) ?_ (hlf.keep KB) (NdsAt.of fun k hk => (NdsAt.keep KB _ hks).mem k (List.mem_of_mem_eraseIdx hk)) ⟨_, hm⟩, hB, fun y o h1 h2 h3 => set_at (up6 y o h1 h2) h3⟩
  exact row_of_owns (owns_set o6 (by simp [Value.ownBlock]; exact fun e => hbg e.symm) 2 _)
set_option maxHeartbeats 4000000 in
set_option maxRecDepth 100000 in
theorem remove_deep (w : World) (n k : Nd) (rest : ByteArray) (l : Lf) (hn : NdAt w n) (ho : Ok n) (hfit : Fits n 3999999999999) (h0 : rest.size ≠ 0) (hbig : rest.size < 4000000000000) (hd : downN n rest = some k) (hkm : k ∈ n.kids) (hpos : 0 < k.label.size) (hle : k.label.size ≤ rest.size) (hq : kidN n rest = some k)
    (hfk : findT k (L (rest.extract k.label.size rest.size)) = some l) (IH : Calls Try.prog 90 #[ptr k.b, .string (rest.extract k.label.size rest.size)] w (Removed w k (rest.extract k.label.size rest.size) l)) :
    Calls Try.prog 90 #[ptr n.b, .string rest] w (Removed w n rest l) := by
  obtain ⟨hh, hlt, ek⟩ := kidN_some hq
  have hrp : 0 < rest.size := by omega
  have hne := full_of rest hrp
  have q1 := Aside0.mk (downC w n hn ho rest)
  rw [hd] at q1
  obtain ⟨kv2, hb2, _⟩ := (hn.parts.choose_spec.2.2.2.mem k hkm).parts
  have c0 : w.cell? ⟨k.b, 0, none⟩ = some (.string k.label) := by rw [blk_cell hb2]; rfl
  have hleI : (k.label.size : Int) ≤ (rest.size : Int) := by omega
  have hfew := ho.few
  obtain ⟨i, hi⟩ : ∃ i, pos (n.kids.map fb) (fbS rest) = i := ⟨_, rfl⟩
  have q2 := Aside0.mk (fun w1 h1 w2 b kv m hf => kidF w1 w2 n b kv m (NdAt.keep h1 n hn) ho hf (fbS rest) (fbS_lt rest))
  have ex : ((fbS rest : Nat) : Int) = (rest[0].toNat : Int) := by unfold fbS; rw [← byte0 rest hrp]
  rw [hh, ex, hi] at q2
  have q0 := Aside0.mk (fun w1 (h1 : Kept w w1) => fresh w1 n (NdAt.keep h1 n hn) hfew)
  have hd2 := del_find (rest.extract k.label.size rest.size).size (rest.extract k.label.size rest.size) (Nat.le_refl _) k (ho.parts.2.2.get k hkm)
  have hfk2 : Fits k 3999999999999 := Fits.mono (by omega) k (hfit.parts.2.mem k hkm)
  have hlow : ∀ ns low, delN k (rest.extract k.label.size rest.size) ns = some (low, l) → Ok low ∧ Fits low 3999999999999 := fun ns low e => by
    obtain ⟨m, h1, _, h3, _⟩ := (hd2 ns).2 l hfk
    rw [e] at h1
    cases h1
    exact ⟨h3, fits_del _ _ (Nat.le_refl _) k low _ ns l hfk2 e⟩
  have q4 := Aside0.mk (fun (wB w1 : World) (h1 : Kept wB w1) ns low (e : delN k (rest.extract k.label.size rest.size) ns = some (low, l)) (hl : NdAt wB low) => shapedC wB w1 h1 low hl (hlow ns low e).1 (hlow ns low e).2)
  have ed : ∀ ns, delN n rest ns = (delN k (rest.extract k.label.size rest.size) (fun j => ns (j + 2))).map fun x => (.mk (ns 0).1 n.label n.leaf (putKid n.kids i (shapedN x.1 (ns 1).1)) (ns 0).2, x.2) := fun ns => by
    rw [delN, dif_neg h0, hd]; simp only []; rw [dif_pos hpos, hi]
  obtain ⟨len, elen⟩ : ∃ len, n.kids.length = len := ⟨_, rfl⟩
  have hilen : i < len := by rw [← hi, ← elen]; exact hlt
  have q3 := Aside0.mk IH
  have hkb : (ptrs n.kids)[i]? = some (ptr k.b) := by
    rw [← hi]; simp [ptrs, List.getElem?_eq_getElem hlt, ek]
  have HN := Aside0.mk (And.intro hn (And.intro ed (And.intro elen hkb)))
  have hlen256 : len ≤ 256 := by omega
  clear hn ho hfit hd hkm hq hfk IH hh hlt ek hb2 hfew ex hi hd2 hfk2 hlow ed hle hpos hkb
  unfold optPtr at q1
  unfold ptr at q1 q3 ⊢
  go_enter Try.func90, Try.ntmps90
  go_wp2_with (go_at_call 121; refine q1.out.mono ?_; rintro e w1 ⟨rfl, rfl⟩)
  clear q1
  go_wp2_with (go_at_call 90; refine q3.out.mono ?_)
  rintro e w2 ⟨low, ns, rfl, hdel, hlow, hsup, B2⟩
  have q5 := Aside0.mk (q0.out w2 (Kept.of B2))
  have q6 := Aside0.mk (q2.out w2 (Kept.of B2))
  have q7 := Aside0.mk (fun w1 h1 => q4.out w2 w1 h1 ns low hdel hlow)
  have H2 := Aside0.mk (And.intro hdel (And.intro hlow (And.intro hsup B2)))
  clear q3 q0 q2 q4 hdel hlow hsup B2
  unfold ptr
  go_wp2_with (go_at_call 124; refine q5.out.mono ?_)
  rintro e w3 ⟨b, kv, m, rfl, hf⟩
  have q8 := Aside0.mk (q6.out w3 b kv m hf)
  have q9 := Aside0.mk (q7.out w3 (Kept.of hf.kept))
  obtain ⟨g, cap, cur, rfl, hgb, hgg, hgc, hgn, hgm, hgs⟩ := owns_some hf.row (by rw [HN.out.2.2.1]; omega)
  have HF := Aside0.mk hf
  have HG0 := Aside0.mk (And.intro hgc hgn)
  rw [HN.out.2.2.1] at hf hgc hgn
  have HG := Aside0.mk (And.intro hgb (And.intro hgg (And.intro hgc (And.intro hgn (And.intro hgm hgs)))))
  have k2 : w3.cell? ⟨b, 2, none⟩ = some (.slice (some ⟨g, 0, none⟩) len cap) := by rw [blk_cell hf.blk]; rfl
  have f2 : w3.frozen? ⟨b, 2, none⟩ = false := blk_frozen hf.blk 2
  clear q5 q6 q7 hf hgb hgg hgc hgn hgm hgs
  unfold ptr at q8 ⊢
  go_wp2_with (go_at_call 125; refine q8.out.mono ?_)
  rintro e w4 ⟨rfl, rfl⟩
  clear q8
  have hcase := shaped_any low w4.heap.size
  cases hsh : shapedN low w4.heap.size with
  | some s =>
    rw [hsh] at q9
    unfold optPtr ptr at q9
    have HSH := Aside0.mk (And.intro hsh hcase)
    clear hsh hcase
    go_wp2_with (go_at_call 126; refine q9.out.mono ?_)
    rintro e w5 ⟨rfl, h5a, h5b, B5⟩
    have k2' := (Kept.of B5).cell k2
    have hgg5 := (Kept.of B5).at HG.out.2.1
    have hgs2 := HG.out.2.2.2.2.2
    have cgi : w5.cell? ⟨g, i, none⟩ = some (.pointer (some ⟨k.b, 0, none⟩)) := by rw [blk_cell hgg5, HG.out.2.2.1 i hilen]; exact HN.out.2.2.2
    have fgi : w5.frozen? ⟨g, i, none⟩ = false := blk_frozen hgg5 i
    have H5 := Aside0.mk (And.intro h5a (And.intro h5b (And.intro B5 hgg5)))
    clear h5a h5b B5 hgg5 hgs2 q9 k2 f2
    go_wp2_with fail
    go_ret2
    obtain ⟨hdel, hlow, hsup, B2⟩ := H2.out
    obtain ⟨h5a, h5b, B5, hgg5⟩ := H5.out
    obtain ⟨hn, ed, elen, hkb⟩ := HN.out
    obtain ⟨hgb, hgg, hgc, hgn, hgm, hgs⟩ := HG.out
    obtain ⟨hsh, hcase⟩ := HSH.out
    have hf := HF.out
    subst elen
    have hc := close_set (n := n) hn (Kept.of B2) B2.size hf hgb hgg HG0.out.1 HG0.out.2 hgm hgs B5 (fun W h1 h2 => h5a W h1 h2 s rfl) hilen
    obtain ⟨c1, c2, c3⟩ := hc
    have hbl := (Array.getElem?_eq_some_iff.1 hf.blk).1
    have s24 := hf.kept.size
    have s12 := B2.size
    have s45 := B5.size
    have hx : ∃ x, shapedN low x = some s ∧ w1.heap.size ≤ x ∧ x < (w5.setCell ⟨g, i, none⟩ (ptr s.b)).heap.size := by
      rw [size_setCell]
      rcases hcase with h | h
      · exact ⟨w4.heap.size, hsh, by omega, h5b (by obtain ⟨k', e1, e2⟩ := h; rw [hsh] at e2; exact ⟨k', e1, e2⟩)⟩
      · exact ⟨b, by rw [h]; exact hsh, by have := hf.new; omega, by omega⟩
    obtain ⟨x, hx1, hx2, hx3⟩ := hx
    refine ⟨.mk b n.label n.leaf (n.kids.set i s) m, nsDown (b, m) (x, m) ns, rfl, ?_, c1, ns_close B2 hsup hf (fun y o hy hh => c3 y o hy (fresh_apart hf hgb hgg y o hy hh).1) (by rw [size_setCell]; exact s45) ⟨hx2, hx3⟩, belowAt B2 c2⟩
    rw [ed, nsDown_tail, hdel]
    show some (Nd.mk b n.label n.leaf (putKid n.kids i (shapedN low x)) m, l) = _
    rw [hx1]
    rfl
  | none =>
    rw [hsh] at q9
    unfold optPtr at q9
    have HSH := Aside0.mk (And.intro hsh hcase)
    clear hsh hcase
    go_wp2_with (go_at_call 126; refine q9.out.mono ?_)
    rintro e w5 ⟨rfl, h5a, h5b, B5⟩
    have k2' := (Kept.of B5).cell k2
    have own5 : w5.ownsRow w2.heap.size 58 1 (.slice (some ⟨g, 0, none⟩) len cap) len (ptrs n.kids) := by
      have := owns_keep HF.out.row (Kept.of B5)
      rw [HN.out.2.2.1] at this
      exact this
    have hbg : b ≠ g := fun e => by have h := HF.out.blk; rw [e, HG.out.2.1] at h; cases h
    have f2' : w5.frozen? ⟨b, 2, none⟩ = false := blk_frozen ((Kept.of B5).at HF.out.blk) 2
    have hb5 := (Kept.of B5).at HF.out.blk
    rw [HN.out.2.2.1] at hb5
    have HB5 := Aside0.mk (And.intro hb5 hbg)
    have q10 := Aside0.mk (delRow w5 w2.heap.size g len cap i n.kids own5 hilen)
    have H5 := Aside0.mk (And.intro h5a (And.intro h5b (And.intro B5 own5)))
    clear h5a h5b B5 q9 k2 f2 own5 hb5 hbg
    have ew : IntKind.i64.wrap ((i : Int) + 1) = (i : Int) + 1 := by rw [IntKind.wrap_i64]; omega
    go_wp2_with (go_at_call 127; refine q10.out.mono ?_)
    rintro e w6 ⟨rfl, o6, g6, _⟩
    have hb6 := grown_at g6 HB5.out.1 (fun e => HB5.out.2 (by cases e; rfl))
    have k2'' : w6.cell? ⟨b, 2, none⟩ = some (.slice (some ⟨g, 0, none⟩) len cap) := by rw [blk_cell hb6]; rfl
    have f2'' : w6.frozen? ⟨b, 2, none⟩ = false := blk_frozen hb6 2
    have H6 := Aside0.mk (And.intro o6 g6)
    clear o6 g6 hb6 q10
    go_wp2_with fail
    go_ret2
    obtain ⟨hdel, hlow, hsup, B2⟩ := H2.out
    obtain ⟨h5a, h5b, B5, own5⟩ := H5.out
    obtain ⟨hn, ed, elen, hkb⟩ := HN.out
    obtain ⟨hgb, hgg, hgc, hgn, hgm, hgs⟩ := HG.out
    obtain ⟨hsh, hcase⟩ := HSH.out
    obtain ⟨o6, g6⟩ := H6.out
    have hf := HF.out
    subst elen
    have hc := close_del (n := n) hn (Kept.of B2) B2.size hf hgb hgg B5 o6 g6 hilen
    obtain ⟨c1, c2, c3⟩ := hc
    have hbl := (Array.getElem?_eq_some_iff.1 hf.blk).1
    have s24 := hf.kept.size
    have s12 := B2.size
    have s45 := B5.size
    have s56 := g6.size
    have hx1 : shapedN low b = none := by
      rcases hcase with ⟨k', _, e2⟩ | h
      · rw [hsh] at e2; cases e2
      · rw [h]; exact hsh
    refine ⟨.mk b n.label n.leaf (n.kids.eraseIdx i) m, nsDown (b, m) (b, m) ns, rfl, ?_, c1, ns_close B2 hsup hf (fun y o hy hh => c3 y o hy (fresh_apart hf hgb hgg y o hy hh).1 (fresh_apart hf hgb hgg y o hy hh).2) (by rw [size_setCell]; omega) ⟨by have := hf.new; omega, by rw [size_setCell]; omega⟩, belowAt B2 c2⟩
    rw [ed, nsDown_tail, hdel]
    show some (Nd.mk b n.label n.leaf (putKid n.kids i (shapedN low b)) m, l) = _
    rw [hx1]
    rfl
end Go.Proofs.Ytjhgknagmiekeaa.T
set_option linter.unusedVariables false
set_option linter.unusedSimpArgs false
namespace Go.Proofs.Ytjhgknagmiekeaa.T
open Go.RowKit Go.Lib Go.Proofs Go.Proofs.YtjhgknagmiekeaaW.PrintWords
theorem remove_some : ∀ (N : Nat) (rest : ByteArray), rest.size ≤ N → rest.size < 4000000000000 → ∀ (n : Nd) (l : Lf) (w : World), NdAt w n → Ok n → Fits n 3999999999999 → findT n (L rest) = some l →
    Calls Try.prog 90 #[ptr n.b, .string rest] w (Removed w n rest l) := by
  intro N
  induction N with
  | zero =>
    intro rest hN hb n l w hn ho hfit hf
    exact remove_here n rest l w hn ho (by omega) (by rw [← find_rest0 (rest := rest) (by omega)]; exact hf)
  | succ N ih =>
    intro rest hN hb n l w hn ho hfit hf
    by_cases h0 : rest.size = 0
    · exact remove_here n rest l w hn ho h0 (by rw [← find_rest0 h0]; exact hf)
    · rcases down_cases ho h0 with ⟨_, h⟩ | ⟨k, hd, hkm, hpos, hle, hq, hfk⟩
      · rw [h] at hf; cases hf
      · rw [hfk] at hf
        exact remove_deep w n k rest l hn ho hfit h0 hb hd hkm hpos hle hq hf (ih _ (by simp only [ByteArray.size_extract]; omega) (by simp only [ByteArray.size_extract]; omega) k l w (hn.parts.choose_spec.2.2.2.mem k hkm) (ho.parts.2.2.get k hkm) (Fits.mono (by omega) k (hfit.parts.2.mem k hkm)) hf)
theorem leaf_at {w : World} {root : Nd} (h : Good root) (hn : NdAt w root) {k : ByteArray} {l : Lf} (hf : findT root (L k) = some l) : LfAt w (some l) := by
  have := findN_at w k.size k (Nat.le_refl _) root hn
  rw [find_eq h, hf] at this
  exact this
set_option maxHeartbeats 4000000 in
set_option maxRecDepth 100000 in
theorem treeDelete_none (w : World) (tb : Nat) (root : Nd) (size : Int) (k : ByteArray) (h : TrAt w tb root size) (hg : Fine root) (hk : k.size < 4000000000000) (hf : findT root (L k) = none) :
    Calls Try.prog 39 #[ptr tb, .string k] w fun e w' => e = .returned (.tuple #[ptr tb, .int .i64 0, .bool false]) ∧ w' = w := by
  have q1 := Aside0.mk (remove_none k.size k (Nat.le_refl _) hk root w h.root hg.ok hf)
  have c0 : w.cell? ⟨tb, 0, none⟩ = some (.pointer (some ⟨root.b, 0, none⟩)) := by rw [blk_cell h.blk]; rfl
  clear h hg hf
  unfold ptr at q1 ⊢
  go_enter Try.func39, Try.ntmps39
  go_wp2_with (go_at_call 90; refine q1.out.mono ?_; rintro e w1 ⟨rfl, rfl⟩)
  go_ret3
  exact ⟨rfl, rfl⟩
set_option maxHeartbeats 4000000 in
set_option maxRecDepth 100000 in
theorem treeDelete_some (w : World) (tb : Nat) (root : Nd) (size : Int) (k : ByteArray) (l : Lf) (v : Int) (h : TrAt w tb root size) (hg : Fine root) (hk : k.size < 4000000000000) (hs0 : 0 < size) (hs1 : size < 4000000000000) (hf : findT root (L k) = some l) (hv : l.val = .int .i64 v) :
    Calls Try.prog 39 #[ptr tb, .string k] w fun e w' => ∃ tb' m ns, e = .returned (.tuple #[ptr tb', .int .i64 v, .bool true]) ∧ TrAt w' tb' m (size - 1) ∧ delN root k ns = some (m, l) ∧ w.heap.size ≤ tb' ∧ SupOk w.heap.size w' ns ∧ Below w.heap.size w w' := by
  have q1 := Aside0.mk (remove_some k.size k (Nat.le_refl _) hk root l w h.root hg.ok hg.fits hf)
  have c0 : w.cell? ⟨tb, 0, none⟩ = some (.pointer (some ⟨root.b, 0, none⟩)) := by rw [blk_cell h.blk]; rfl
  have c1 : w.cell? ⟨tb, 1, none⟩ = some (.int .i64 size) := by rw [blk_cell h.blk]; rfl
  have hl := leaf_at hg.toGood h.root hf l rfl
  have cv : w.cell? ⟨l.b, 1, none⟩ = some (.int .i64 v) := by rw [blk_cell hl, hv]; rfl
  have H := Aside0.mk (And.intro h hs0)
  have ew : IntKind.i64.wrap (size - 1) = size - 1 := by rw [IntKind.wrap_i64]; omega
  have ew2 : wrap64 (size - 1) = size - 1 := by unfold wrap64; omega
  have HW := Aside0.mk (And.intro ew ew2)
  clear h hg hf hl hv ew ew2
  unfold ptr at q1 ⊢
  go_enter Try.func39, Try.ntmps39
  go_wp2_with (go_at_call 90; refine q1.out.mono ?_)
  rintro e w1 ⟨m, ns, rfl, hdel, hm, hsup, B1⟩
  have d1 := (Kept.of B1).cell c1
  have dv := (Kept.of B1).cell cv
  have H1 := Aside0.mk (And.intro hdel (And.intro hm (And.intro hsup B1)))
  clear hdel hm hsup B1 q1 c0 c1 cv
  unfold ptr
  have ew := HW.out.1
  go_wp2_with fail
  go_region_held3 (fun w' => w'.cell? ⟨tb, 1, none⟩ = some (.int .i64 size) ∧ w'.cell? ⟨l.b, 1, none⟩ = some (.int .i64 v))
    (first | exact ⟨d1, dv⟩ | exact ⟨cellA d1, cellA dv⟩)
    (fail)
  go_wp2_with fail
  go_ret3
  obtain ⟨hdel, hm, hsup, B1⟩ := H1.out
  have B := (B1.alloc B1.size (.cells #[.pointer (some ⟨m.b, 0, none⟩), .int .i64 (size - 1)] 124))
  have K : Kept w1 (w1.alloc (.cells #[.pointer (some ⟨m.b, 0, none⟩), .int .i64 (size - 1)] 124)).drew := fun x hx => Kept.of ((Below.refl _ w1).alloc (Nat.le_refl _) _) x hx
  refine ⟨w1.heap.size, m, ns, rfl, ⟨heap_alloc_new w1 _, NdAt.keep K _ hm⟩, hdel, B1.size, ⟨fun j => ?_, fun j => (hsup.mark j).keep K⟩, ⟨B.os, B.tape, B.output, B.size, B.block⟩⟩
  have h1 := hsup.new j
  have : (w1.alloc (.cells #[.pointer (some ⟨m.b, 0, none⟩), .int .i64 (size - 1)] 124)).drew.heap.size = w1.heap.size + 1 := by
    show (w1.alloc _).heap.size = _
    rw [World.size_alloc]
  omega
end Go.Proofs.Ytjhgknagmiekeaa.T
set_option linter.unusedVariables false
set_option linter.unusedSimpArgs false
namespace Go.Proofs.Ytjhgknagmiekeaa.T
open Go.RowKit Go.Lib Go.Proofs Go.Proofs.YtjhgknagmiekeaaW.PrintWords
def nodeV (b : Nat) (path : ByteArray) : Value := .agg #[ptr b, .string path]
set_option maxHeartbeats 4000000 in
set_option maxRecDepth 100000 in
theorem rootC (w : World) (tb : Nat) (root : Nd) (size : Int) (h : TrAt w tb root size) : Calls Try.prog 42 #[ptr tb] w fun e w' => e = .returned (nodeV root.b ⟨#[]⟩) ∧ Below w.heap.size w w' := by
  have c0 : w.cell? ⟨tb, 0, none⟩ = some (.pointer (some ⟨root.b, 0, none⟩)) := by rw [blk_cell h.blk]; rfl
  have HB := Aside0.mk ((Below.refl w.heap.size w).alloc (Nat.le_refl _) (.cells #[.pointer (some ⟨root.b, 0, none⟩), .string ⟨#[]⟩] 60))
  have c1 : (w.alloc (.cells #[.pointer none, .string ⟨#[]⟩] 60)).cell? ⟨tb, 0, none⟩ = some (.pointer (some ⟨root.b, 0, none⟩)) := cellA c0
  clear h c0
  unfold nodeV ptr
  go_enter Try.func42, Try.ntmps42
  go_wp2_with fail
  exact bodyPost_ret (v := .agg #[.pointer (some ⟨root.b, 0, none⟩), .string ⟨#[]⟩]) (by simp [results, Try.results42, go_sem]) rfl ⟨rfl, HB.out⟩
set_option maxHeartbeats 4000000 in
set_option maxRecDepth 100000 in
theorem pathC (w : World) (b : Nat) (path : ByteArray) : Calls Try.prog 94 #[nodeV b path] w fun e w' => e = .returned (.string path) ∧ Below w.heap.size w w' := by
  have HB := Aside0.mk ((Below.refl w.heap.size w).alloc (Nat.le_refl _) (.cells #[.pointer (some ⟨b, 0, none⟩), .string path] 60))
  unfold nodeV ptr
  go_enter Try.func94, Try.ntmps94
  go_wp2_with fail
  go_ret
  exact ⟨rfl, HB.out⟩
def lookV : Option Lf → Value
  | none => .tuple #[.int .i64 0, .bool false]
  | some l => .tuple #[l.val, .bool true]
set_option maxHeartbeats 4000000 in
set_option maxRecDepth 100000 in
theorem valueC (w : World) (n : Nd) (path : ByteArray) (hn : NdAt w n) : Calls Try.prog 93 #[nodeV n.b path] w fun e w' => e = .returned (lookV n.leaf) ∧ Below w.heap.size w w' := by
  have HB := Aside0.mk ((Below.refl w.heap.size w).alloc (Nat.le_refl _) (.cells #[.pointer (some ⟨n.b, 0, none⟩), .string path] 60))
  have hn1 := NdAt.keep (Kept.of HB.out) n hn
  obtain ⟨kv, hb, hr, hl, hk⟩ := hn1.parts
  obtain ⟨lp, elp⟩ := leafPtr_form n.leaf
  have c1 : (w.alloc (.cells #[.pointer (some ⟨n.b, 0, none⟩), .string path] 60)).cell? ⟨n.b, 1, none⟩ = some (.pointer lp) := by rw [blk_cell hb, elp]; rfl
  have q := told (w.alloc (.cells #[.pointer (some ⟨n.b, 0, none⟩), .string path] 60)) n.leaf hl
  rw [elp] at q
  obtain ⟨a, b, c, ha, hla⟩ : ∃ a b c, toldV n.leaf = .tuple #[a, b, c] ∧ lookV n.leaf = .tuple #[b, c] := by cases n.leaf <;> exact ⟨_, _, _, rfl, rfl⟩
  rw [ha] at q
  rw [hla]
  have q1 := Aside0.mk q
  clear hn hn1 hb hr hl hk elp q ha hla
  unfold nodeV ptr
  go_enter Try.func93, Try.ntmps93
  go_wp2_with (go_at_call 87; refine q1.out.mono ?_; rintro e w1 ⟨rfl, Q1⟩; have HQ := Aside0.mk Q1; clear Q1)
  go_ret2
  exact ⟨rfl, HB.out.trans (HQ.out.below _)⟩
def NodeRow (w : World) (v : Value) (xs : List (Nat × ByteArray)) : Prop := ∃ A c, v = .slice A xs.length c ∧ ∀ i (h : i < xs.length), ∃ g, A = some ⟨g, 0, none⟩ ∧ w.cell? ⟨g, i * 2, none⟩ = some (ptr xs[i].1) ∧ w.cell? ⟨g, i * 2 + 1, none⟩ = some (.string xs[i].2)
theorem NodeRow.keep {w w' : World} {v : Value} {xs : List (Nat × ByteArray)} (h : NodeRow w v xs) (k : Kept w w') : NodeRow w' v xs := by
  obtain ⟨A, c, e, h⟩ := h
  refine ⟨A, c, e, fun i hi => ?_⟩
  obtain ⟨g, e1, h1, h2⟩ := h i hi
  exact ⟨g, e1, k.cell h1, k.cell h2⟩
def flatK (path : ByteArray) (ks : List Nd) : List Value := ks.flatMap fun k => [ptr k.b, .string (path ++ k.label)]
theorem flatK_len (path : ByteArray) (ks : List Nd) : (flatK path ks).length = ks.length * 2 := by
  induction ks with
  | nil => rfl
  | cons k ks ih => simp only [flatK, List.flatMap_cons, List.length_append, List.length_cons, List.length_nil] at ih ⊢; omega
theorem flatK_snoc (path : ByteArray) (ks : List Nd) (k : Nd) : flatK path (ks ++ [k]) = flatK path ks ++ [ptr k.b, .string (path ++ k.label)] := by simp [flatK]
theorem flatK_get (path : ByteArray) : ∀ (ks : List Nd) (i : Nat) (h : i < ks.length), (flatK path ks)[i * 2]? = some (ptr ks[i].b) ∧ (flatK path ks)[i * 2 + 1]? = some (.string (path ++ ks[i].label))
  | k :: ks, 0, _ => by simp [flatK]
  | k :: ks, i + 1, h => by
    have ih := flatK_get path ks i (by simpa using h)
    have e : flatK path (k :: ks) = ptr k.b :: .string (path ++ k.label) :: flatK path ks := rfl
    rw [e, show (i + 1) * 2 = i * 2 + 1 + 1 by omega, show i * 2 + 1 + 1 + 1 = (i * 2 + 1) + 1 + 1 by omega]
    simpa using ih
def looksOf (path : ByteArray) (ks : List Nd) : List (Nat × ByteArray) := ks.map fun k => (k.b, path ++ k.label)
theorem nodeRow_of {w : World} {base n : Nat} {v : Value} {path : ByteArray} {ks : List Nd} (h : w.ownsRow base 60 2 v n (flatK path ks)) : NodeRow w v (looksOf path ks) := by
  have hl : ks.length = n := by have := h.1; rw [flatK_len] at this; omega
  have hl2 : (looksOf path ks).length = n := by simp [looksOf, hl]
  rcases h.2 with ⟨rfl, h0⟩ | ⟨g, cap, cur, rfl, hb, hg, hnc, hcm, hcs, ht⟩
  · exact ⟨none, 0, by rw [hl2, h0], fun i hi => by omega⟩
  · refine ⟨some ⟨g, 0, none⟩, cap, by rw [hl2], fun i hi => ⟨g, rfl, ?_⟩⟩
    have hi' : i < ks.length := by omega
    have hg2 := flatK_get path ks i hi'
    have key : ∀ j, j < n * 2 → w.cell? ⟨g, j, none⟩ = (flatK path ks)[j]? := fun j hj => by
      rw [blk_cell hg, ← ht, List.getElem?_take_of_lt hj, Array.getElem?_toList]
    rw [key (i * 2) (by omega), key (i * 2 + 1) (by omega), hg2.1, hg2.2]
    simp [looksOf]
theorem infoNode : (Try.prog.info? 60).map (fun i => (i.zero, i.size, i.bytes)) = some (some (.agg #[.pointer none, .string ⟨#[]⟩]), 2, 24) := by kernel_rfl
set_option maxHeartbeats 4000000 in
set_option maxRecDepth 100000 in
theorem kidsO (w : World) (n : Nd) (path : ByteArray) (hn : NdAt w n) (ho : Ok n) (hp : ∀ k ∈ n.kids, path.size + k.label.size < 9000000000000000000) :
    Calls Try.prog 95 #[nodeV n.b path] w fun e w' => ∃ v, e = .returned v ∧ w'.ownsRow (w.heap.size + 1) 60 2 v n.kids.length (flatK path n.kids) ∧ Below w.heap.size w w' := by
  obtain ⟨i0, hi, hz0, hz1, hz2⟩ := info_parts infoNode
  have hfew := ho.few
  have HB := Aside0.mk ((Below.refl w.heap.size w).alloc (Nat.le_refl _) (.cells #[.pointer (some ⟨n.b, 0, none⟩), .string path] 60))
  have hn1 := NdAt.keep (Kept.of HB.out) n hn
  obtain ⟨kv, hb, hr, hl, hk⟩ := hn1.parts
  obtain ⟨A, c, rfl, hrc⟩ := hr.open
  have elen : (ptrs n.kids).length = n.kids.length := by simp [ptrs]
  rw [elen] at hb
  obtain ⟨len, hlen⟩ : ∃ len, n.kids.length = len := ⟨_, rfl⟩
  have c2 : (w.alloc (.cells #[.pointer (some ⟨n.b, 0, none⟩), .string path] 60)).cell? ⟨n.b, 2, none⟩ = some (.slice A len c) := by rw [blk_cell hb, ← hlen]; rfl
  have HR := Aside0.mk (And.intro hrc (And.intro hk (And.intro hp hlen)))
  have hbox := heap_alloc_new w (.cells #[.pointer (some ⟨n.b, 0, none⟩), .string path] 60)
  have HX := Aside0.mk hbox
  have hl256 : len ≤ 256 := by omega
  have HI := Aside0.mk (And.intro hi (And.intro hz0 (And.intro hz1 hz2)))
  clear hn hn1 ho hp hb hr hl hk hrc elen hfew hbox hi hz0 hz1 hz2
  unfold nodeV ptr
  go_enter Try.func95, Try.ntmps95
  go_wp2_with fail
  go_loopg [3, 5, 12] (len + 1) (fun kq v3 v5 v12 w' => ∃ i : Nat, v12 = .int .i64 (i : Int) ∧ Aside0 (i + kq = len + 1 ∧ i ≤ len) ∧ Aside0 (w'.ownsRow (w.heap.size + 1) 60 2 v3 i (flatK path (n.kids.take i))) ∧ Aside0 (Below (w.heap.size + 1) (w.alloc (.cells #[.pointer (some ⟨n.b, 0, none⟩), .string path] 60)) w'))
  case atStart => exact ⟨0, rfl, ⟨by omega⟩, ⟨World.ownsRow_nil _ _ _ _⟩, ⟨Below.refl _ _⟩⟩
  case round =>
    obtain ⟨i, rfl, HQ, HO, HW⟩ := hrel
    by_cases hlt : i < len
    · have hi' : i < n.kids.length := by rw [HR.out.2.2.2]; exact hlt
      obtain ⟨ad, eA, hca⟩ := HR.out.1 i (by simpa [ptrs] using hi')
      obtain ⟨k, ek⟩ : ∃ k, n.kids[i] = k := ⟨_, rfl⟩
      have hkm : k ∈ n.kids := by rw [← ek]; exact List.getElem_mem _
      have epk : (ptrs n.kids)[i]'(by simpa [ptrs] using hi') = ptr k.b := by simp [ptrs, ek]
      rw [epk] at hca
      obtain ⟨kv2, hb2, _⟩ := (HR.out.2.1.mem k hkm).parts
      have KW : Kept (w.alloc (.cells #[.pointer (some ⟨n.b, 0, none⟩), .string path] 60)) wr := Kept.of (by have := HW.out; rwa [World.size_alloc])
      have d0 : wr.cell? ⟨k.b, 0, none⟩ = some (.string k.label) := by rw [blk_cell (KW.at hb2)]; rfl
      have d1 : wr.cell? (ad.add i) = some (.pointer (some ⟨k.b, 0, none⟩)) := KW.cell hca
      have e1 : wr.cell? ⟨w.heap.size, 1, none⟩ = some (.string path) := by rw [blk_cell (KW.at HX.out)]; rfl
      have hadd := fun w1 : World => run_string_add_sum (P := Try.prog) w1 path k.label (by have := HR.out.2.2.1 k hkm; omega)
      have HK := Aside0.mk (show n.kids[i]? = some k by rw [List.getElem?_eq_getElem hi', ek])
      have hltI : (i : Int) < (len : Int) := by omega
      have ew : IntKind.i64.wrap ((i : Int) + 1) = (i : Int) + 1 := by rw [IntKind.wrap_i64]; omega
      subst eA
      clear hca ek hkm epk hb2 KW hi'
      go_wp2_with fail
      have h1c : Aside0 (∀ u ∈ [Value.pointer (some ⟨k.b, 0, none⟩), Value.string (path ++ k.label)], u.oneCell' = true) := ⟨by simp [Value.oneCell']⟩
      have HO2 : Aside0 (wr.drew.ownsRow (w.heap.size + 1) 60 2 u3 i (flatK path (n.kids.take i))) := ⟨HO.out⟩
      have HW2 : Aside0 (Below (w.heap.size + 1) (w.alloc (.cells #[.pointer (some ⟨n.b, 0, none⟩), .string path] 60)) wr.drew) := ⟨⟨HW.out.os, HW.out.tape, HW.out.output, HW.out.size, HW.out.block⟩⟩
      have hbs : Aside0 (w.heap.size + 1 ≤ wr.drew.heap.size) := ⟨by have := HW.out.size; rw [World.size_alloc] at this; exact this⟩
      have hbl : Aside0 ((i + 1) * 24 ≤ 140737488355328) := ⟨by omega⟩
      go_region_law (refine step_append_cells (w0 := w.alloc (.cells #[.pointer (some ⟨n.b, 0, none⟩), .string path] 60)) (W := wr.drew) (w.heap.size + 1) rfl (.tmp 16) (.tmp 26) 132 60 (.agg #[.pointer none, .string ⟨#[]⟩]) 2 24 rfl Try.underlying132 infoNode rfl (by decide) (by decide) u3 i _ [.pointer (some ⟨k.b, 0, none⟩), .string (path ++ k.label)] (by simp [Act.eval, Act.put]) (by simp [Act.eval, Act.put]) rfl h1c.out HO2.out HW2.out hbs.out hbl.out ?_; intro v1 w2 o1 b1 g1 at1; have H1 := Aside0.mk (And.intro o1 b1); clear o1 b1 g1 at1)
      all_goals
        go_wp2_with fail
        go_roundg (len - i)
        case measure => have := HQ.out; omega
        case rel =>
          refine ⟨i + 1, by simp, ⟨by have := HQ.out; omega⟩, ⟨?_⟩, ⟨H1.out.2⟩⟩
          have e : n.kids.take (i + 1) = n.kids.take i ++ [k] := by
            rw [List.take_add_one, HK.out]; rfl
          rw [e, flatK_snoc]
          exact H1.out.1
    · have hin : i = len := by have := HQ.out; omega
      subst hin
      go_wp2_with fail
      go_ret
      have e : n.kids.take i = n.kids := List.take_of_length_le (by rw [HR.out.2.2.2]; exact Nat.le_refl _)
      have ho := HO.out
      rw [e] at ho
      have hB := HW.out
      have hl := HR.out.2.2.2
      rw [← hl] at ho
      exact ⟨_, rfl, ho, HB.out.trans ⟨hB.os, hB.tape, hB.output, hB.size, fun x hx => hB.block x (by omega)⟩⟩
theorem kidsC (w : World) (n : Nd) (path : ByteArray) (hn : NdAt w n) (ho : Ok n) (hp : ∀ k ∈ n.kids, path.size + k.label.size < 9000000000000000000) :
    Calls Try.prog 95 #[nodeV n.b path] w fun e w' => ∃ v, e = .returned v ∧ NodeRow w' v (looksOf path n.kids) ∧ Below w.heap.size w w' := by
  refine (kidsO w n path hn ho hp).mono ?_
  rintro e w' ⟨v, rfl, h, hB⟩
  exact ⟨v, rfl, nodeRow_of h, hB⟩
end Go.Proofs.Ytjhgknagmiekeaa.T
