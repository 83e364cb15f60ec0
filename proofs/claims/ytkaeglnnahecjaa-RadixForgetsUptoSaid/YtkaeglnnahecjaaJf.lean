/- joined: P7 P8 P9 P10 P11 -/
import Derived.Test.YtkaeglnnahecjaaJc
import Derived.Sort.Walk0
/- radix, plain: the entries of a tree, in their order. -/
set_option linter.unusedVariables false
set_option linter.unusedSimpArgs false
namespace Go.Proofs.Ytkaeglnnahecjaa.T

theorem blt_trans {x y z : List UInt8} (h : x < y) (k : y < z) : x < z := List.lt_trans h k
theorem blt_irrefl (x : List UInt8) : ¬ x < x := List.lt_irrefl x
theorem blt_asymm {x y : List UInt8} (h : x < y) : ¬ y < x := fun k => blt_irrefl x (blt_trans h k)
theorem blt_total (x y : List UInt8) : x < y ∨ x = y ∨ y < x := by
  induction x generalizing y with
  | nil => cases y with
    | nil => exact .inr (.inl rfl)
    | cons b y => exact .inl (List.nil_lt_cons b y)
  | cons a x ih => cases y with
    | nil => exact .inr (.inr (List.nil_lt_cons a x))
    | cons b y =>
      simp only [List.cons_lt_cons_iff]
      by_cases h1 : a < b
      · exact .inl (.inl h1)
      · by_cases h2 : a = b
        · subst h2
          rcases ih y with h | h | h
          · exact .inl (.inr ⟨rfl, h⟩)
          · exact .inr (.inl (by rw [h]))
          · exact .inr (.inr (.inr ⟨rfl, h⟩))
        · refine .inr (.inr (.inl ?_))
          rw [UInt8.lt_iff_toNat_lt] at h1 ⊢
          have h3 : a.toNat ≠ b.toNat := fun e => h2 (UInt8.toNat_inj.1 e)
          omega
theorem blt_pre (p x y : List UInt8) : p ++ x < p ++ y ↔ x < y := by
  induction p with
  | nil => rfl
  | cons a p ih => simp only [List.cons_append, List.cons_lt_cons_iff, ih]; simp
theorem blt_ext (p r : List UInt8) (h : r ≠ []) : p < p ++ r := by
  cases r with
  | nil => exact absurd rfl h
  | cons b r =>
    have := (blt_pre p [] (b :: r)).2 (List.nil_lt_cons b r)
    rwa [List.append_nil] at this
theorem blt_hd {x y : List UInt8} (hx : x ≠ []) (hy : y ≠ []) (h : hd x < hd y) : x < y := by
  cases x with
  | nil => exact absurd rfl hx
  | cons a x => cases y with
    | nil => exact absurd rfl hy
    | cons b y =>
      rw [List.cons_lt_cons_iff]
      refine .inl ?_
      rw [UInt8.lt_iff_toNat_lt]
      exact h
theorem hd_append {x y : List UInt8} (hx : x ≠ []) : hd (x ++ y) = hd x := by
  cases x with
  | nil => exact absurd rfl hx
  | cons a x => rfl
/-- two rising lists with the same members are one -/
theorem sorted_ext {α : Type} {lt : α → α → Prop} (irr : ∀ a, ¬ lt a a) (tr : ∀ a b c, lt a b → lt b c → lt a c) : ∀ (A B : List α), A.Pairwise lt → B.Pairwise lt → (∀ x, x ∈ A ↔ x ∈ B) → A = B
  | [], [], _, _, _ => rfl
  | [], b :: B, _, _, h => by have := (h b).2 (by simp); simp at this
  | a :: A, [], _, _, h => by have := (h a).1 (by simp); simp at this
  | a :: A, b :: B, hA, hB, h => by
    have hA2 := List.pairwise_cons.1 hA
    have hB2 := List.pairwise_cons.1 hB
    have e : a = b := by
      rcases List.mem_cons.1 ((h a).1 (by simp)) with e | e
      · exact e
      · rcases List.mem_cons.1 ((h b).2 (by simp)) with e2 | e2
        · exact e2.symm
        · exact absurd (tr _ _ _ (hA2.1 b e2) (hB2.1 a e)) (irr a)
    subst e
    rw [sorted_ext irr tr A B hA2.2 hB2.2 (fun x => ⟨fun hx => ?_, fun hx => ?_⟩)]
    · rcases List.mem_cons.1 ((h x).1 (by simp [hx])) with e | e
      · subst e; exact absurd (hA2.1 x hx) (irr x)
      · exact e
    · rcases List.mem_cons.1 ((h x).2 (by simp [hx])) with e | e
      · subst e; exact absurd (hB2.1 x hx) (irr x)
      · exact e
abbrev Ent := List UInt8 × Lf
mutual
def ents (p : List UInt8) : Nd → List Ent
  | .mk _ label leaf kids _ => (leaf.toList.map fun l => (p ++ L label, l)) ++ entss (p ++ L label) kids
def entss (p : List UInt8) : List Nd → List Ent
  | [] => []
  | n :: r => ents p n ++ entss p r
end
theorem ents_eq (p : List UInt8) (n : Nd) : ents p n = (n.leaf.toList.map fun l => (p ++ L n.label, l)) ++ entss (p ++ L n.label) n.kids := by
  cases n; rw [ents]; rfl
theorem mem_entss (p : List UInt8) (x : Ent) : ∀ ks : List Nd, x ∈ entss p ks ↔ ∃ k ∈ ks, x ∈ ents p k
  | [] => by rw [entss]; simp
  | n :: r => by
    rw [entss, List.mem_append, mem_entss p x r]
    constructor
    · rintro (h | ⟨k, hk, h⟩)
      · exact ⟨n, by simp, h⟩
      · exact ⟨k, by simp [hk], h⟩
    · rintro ⟨k, hk, h⟩
      rcases List.mem_cons.1 hk with e | e
      · subst e; exact .inl h
      · exact .inr ⟨k, e, h⟩
theorem kidT_of_mem : ∀ {ks : List Nd} {k : Nd}, (ks.map fb).Pairwise (· < ·) → k ∈ ks → kidT ks (fb k) = some k
  | n :: r, k, hp, hk => by
    have h2 := List.pairwise_cons.1 hp
    unfold kidT
    rcases List.mem_cons.1 hk with e | e
    · subst e; rw [List.find?_cons_of_pos (by simp)]
    · have := h2.1 (fb k) (List.mem_map_of_mem e)
      rw [List.find?_cons_of_neg (by simp; omega)]
      exact kidT_of_mem h2.2 e
theorem L_ne {s : ByteArray} (h : 0 < s.size) : L s ≠ [] := fun e => by have := L_len s; rw [e] at this; simp at this; omega
/-- what stands beneath a kid stands beneath its node -/
theorem findT_kid {n : Nd} (ho : Ok n) {k : Nd} (hk : k ∈ n.kids) (r : List UInt8) : findT n (L k.label ++ r) = findT k r := by
  have hpos := ho.parts.2.1 k hk
  have hne := L_ne hpos
  rw [findT_eq _ _ (by simp [hne]), hd_append hne]
  have hf : hd (L k.label) = fb k := (fb_hd k).symm
  rw [hf, kidT_of_mem ho.parts.1 hk]
  simp only [Option.bind_some, below]
  rw [if_pos ⟨hpos, List.prefix_append _ _⟩]
  congr 1
  rw [← L_len, List.drop_left]
theorem findT_of {n : Nd} (ho : Ok n) {r : List UInt8} {l : Lf} (h : findT n r = some l) : (r = [] ∧ n.leaf = some l) ∨ ∃ k ∈ n.kids, ∃ t, r = L k.label ++ t ∧ findT k t = some l := by
  by_cases hr : r = []
  · subst hr; rw [findT_nil] at h; exact .inl ⟨rfl, h⟩
  · rw [findT_eq _ _ hr] at h
    cases e : kidT n.kids (hd r) with
    | none => rw [e] at h; cases h
    | some k =>
      rw [e] at h
      simp only [Option.bind_some, below] at h
      split at h
      · rename_i hp
        obtain ⟨t, ht⟩ := hp.2
        refine .inr ⟨k, (kidT_some e).1, t, ht.symm, ?_⟩
        rw [← ht, ← L_len, List.drop_left] at h
        exact h
      · cases h
mutual
theorem mem_ents (q : List UInt8) (l : Lf) : ∀ (n : Nd) (p : List UInt8), Ok n → ((q, l) ∈ ents p n ↔ ∃ r, q = p ++ L n.label ++ r ∧ findT n r = some l)
  | .mk b label leaf kids mark, p, ho => by
    have hk := mem_kids q l kids (p ++ L label) ho.parts.2.2
    rw [ents_eq, List.mem_append, mem_entss]
    constructor
    · rintro (h | ⟨k, hkm, h⟩)
      · obtain ⟨l', hl', e⟩ := List.mem_map.1 h
        cases e
        refine ⟨[], by simp, ?_⟩
        rw [findT_nil]
        exact Option.mem_toList.1 hl'
      · obtain ⟨r, e, hr⟩ := (hk k hkm).1 h
        refine ⟨L k.label ++ r, by rw [e]; simp [Nd.label], ?_⟩
        rw [findT_kid ho (show k ∈ (Nd.mk b label leaf kids mark).kids from hkm)]
        exact hr
    · rintro ⟨r, e, hr⟩
      rcases findT_of ho hr with ⟨e1, e2⟩ | ⟨k, hkm, t, e1, e2⟩
      · subst e1
        refine .inl (List.mem_map.2 ⟨l, Option.mem_toList.2 e2, ?_⟩)
        rw [e, List.append_nil]
      · exact .inr ⟨k, hkm, (hk k hkm).2 ⟨t, by rw [e, e1]; simp [Nd.label], e2⟩⟩
theorem mem_kids (q : List UInt8) (l : Lf) : ∀ (ks : List Nd) (p : List UInt8), Oks ks → ∀ k ∈ ks, ((q, l) ∈ ents p k ↔ ∃ r, q = p ++ L k.label ++ r ∧ findT k r = some l)
  | [], _, _ => by simp
  | n :: r, p, ho => by
    intro k hk
    unfold Oks at ho
    rcases List.mem_cons.1 hk with e | e
    · rw [e]; exact mem_ents q l n p ho.1
    · exact mem_kids q l r p ho.2 k e
end
mutual
theorem ents_rise : ∀ (n : Nd) (p : List UInt8), Ok n → (ents p n).Pairwise (fun a b => a.1 < b.1)
  | .mk b label leaf kids mark, p, ho => by
    rw [ents_eq, List.pairwise_append]
    refine ⟨?_, entss_rise kids (p ++ L label) ho.parts.2.2 ho.parts.1 ho.parts.2.1, ?_⟩
    · cases leaf <;> simp [Nd.leaf]
    · intro a ha c hc
      obtain ⟨l', hl', e⟩ := List.mem_map.1 ha
      obtain ⟨k, hkm, hck⟩ := (mem_entss _ _ _).1 hc
      obtain ⟨r, er, _⟩ := (mem_kids c.1 c.2 kids (p ++ L label) ho.parts.2.2 k hkm).1 hck
      rw [← e, er]
      show p ++ L label < _
      rw [List.append_assoc (p ++ L label)]
      exact blt_ext _ _ (by have := L_ne (ho.parts.2.1 k hkm); simp [this])
theorem entss_rise : ∀ (ks : List Nd) (p : List UInt8), Oks ks → (ks.map fb).Pairwise (· < ·) → (∀ k ∈ ks, 0 < k.label.size) → (entss p ks).Pairwise (fun a b => a.1 < b.1)
  | [], _, _, _, _ => by rw [entss]; exact List.Pairwise.nil
  | n :: r, p, ho, hp, hl => by
    unfold Oks at ho
    have hp2 := List.pairwise_cons.1 hp
    rw [entss, List.pairwise_append]
    refine ⟨ents_rise n p ho.1, entss_rise r p ho.2 hp2.2 (fun k hk => hl k (by simp [hk])), ?_⟩
    intro a ha c hc
    obtain ⟨k, hkm, hck⟩ := (mem_entss _ _ _).1 hc
    obtain ⟨s, es, _⟩ := (mem_ents a.1 a.2 n p ho.1).1 ha
    obtain ⟨t, et, _⟩ := (mem_kids c.1 c.2 r p ho.2 k hkm).1 hck
    rw [es, et, List.append_assoc, List.append_assoc, blt_pre]
    have h1 := L_ne (hl n (by simp))
    have h2 := L_ne (hl k (by simp [hkm]))
    refine blt_hd (by simp [h1]) (by simp [h2]) ?_
    rw [hd_append h1, hd_append h2, ← fb_hd, ← fb_hd]
    exact hp2.1 (fb k) (List.mem_map_of_mem hkm)
end
/-- the entries of a tree: its leaves by their keys, rising -/
abbrev All (root : Nd) : List Ent := ents [] root
theorem mem_all {root : Nd} (h : Good root) (q : List UInt8) (l : Lf) : (q, l) ∈ All root ↔ findT root q = some l := by
  rw [mem_ents q l root [] h.ok]
  have e : L root.label = [] := List.length_eq_zero_iff.1 (by rw [L_len]; exact h.top)
  rw [e]
  constructor
  · rintro ⟨r, e, hr⟩; rw [e]; exact hr
  · intro hr; exact ⟨q, rfl, hr⟩
theorem all_rise {root : Nd} (h : Good root) : (All root).Pairwise (fun a b => a.1 < b.1) := ents_rise root [] h.ok
theorem rise_ext {A B : List Ent} (hA : A.Pairwise (fun a b => a.1 < b.1)) (hB : B.Pairwise (fun a b => a.1 < b.1)) (h : ∀ x, x ∈ A ↔ x ∈ B) : A = B :=
  sorted_ext (lt := fun a b : Ent => a.1 < b.1) (fun a => blt_irrefl _) (fun a b c => blt_trans) A B hA hB h
theorem all_ins {root : Nd} (h : Good root) (k : ByteArray) (l : Lf) (ns : Sup) (hg : Good (insN root k l ns)) :
    All (insN root k l ns) = (All root).filter (fun e => decide (e.1 < L k)) ++ (L k, l) :: (All root).filter (fun e => decide (L k < e.1)) := by
  refine rise_ext (all_rise hg) ?_ (fun x => ?_)
  · have hr := all_rise h
    rw [List.pairwise_append, List.pairwise_cons]
    refine ⟨hr.filter _, ⟨?_, hr.filter _⟩, ?_⟩
    · intro a ha; exact of_decide_eq_true (List.mem_filter.1 ha).2
    · intro a ha c hc
      have h1 : a.1 < L k := of_decide_eq_true (List.mem_filter.1 ha).2
      rcases List.mem_cons.1 hc with e | e
      · rw [e]; exact h1
      · have h2 : L k < c.1 := of_decide_eq_true (List.mem_filter.1 e).2
        exact blt_trans h1 h2
  · obtain ⟨q, l'⟩ := x
    rw [mem_all hg, find_ins k.size k (Nat.le_refl _) root h.ok l ns q, List.mem_append, List.mem_cons, List.mem_filter, List.mem_filter, mem_all h]
    simp only [decide_eq_true_eq]
    by_cases e : q = L k
    · rw [if_pos e]
      subst e
      constructor
      · intro e; cases e; exact .inr (.inl rfl)
      · rintro (⟨_, h⟩ | h | ⟨_, h⟩)
        · exact absurd h (blt_irrefl _)
        · cases h; rfl
        · exact absurd h (blt_irrefl _)
    · rw [if_neg e]
      constructor
      · intro h1
        rcases blt_total q (L k) with h2 | h2 | h2
        · exact .inl ⟨h1, h2⟩
        · exact absurd h2 e
        · exact .inr (.inr ⟨h1, h2⟩)
      · rintro (⟨h, _⟩ | h | ⟨h, _⟩)
        · exact h
        · exact absurd (congrArg Prod.fst h) e
        · exact h
end Go.Proofs.Ytkaeglnnahecjaa.T
/- radix, plain: a tree with a leaf taken out: what it holds. -/
set_option linter.unusedVariables false
set_option linter.unusedSimpArgs false
namespace Go.Proofs.Ytkaeglnnahecjaa.T

def joinN (n k : Nd) (b : Nat) : Nd := .mk b (n.label ++ k.label) k.leaf k.kids k.mark
/-- a node as it may stand beneath another: gone, or one with its only kid -/
def shapedN (n : Nd) (b : Nat) : Option Nd :=
  if n.leaf.isSome = true ∨ 1 < n.kids.length then some n
  else match n.kids with
    | [] => none
    | k :: _ => some (joinN n k b)
def putKid (ks : List Nd) (i : Nat) : Option Nd → List Nd
  | some s => ks.set i s
  | none => ks.eraseIdx i
/-- n without the leaf at rest, and that leaf; none: it is not there -/
def delN (n : Nd) (rest : ByteArray) (ns : Sup) : Option (Nd × Lf) :=
  if h0 : rest.size = 0 then n.leaf.map fun l => (.mk (ns 0).1 n.label none n.kids (ns 0).2, l)
  else match downN n rest with
    | none => none
    | some k => if h : 0 < k.label.size then
        (delN k (rest.extract k.label.size rest.size) (fun j => ns (j + 2))).map fun x =>
          (.mk (ns 0).1 n.label n.leaf (putKid n.kids (pos (n.kids.map fb) (fbS rest)) (shapedN x.1 (ns 1).1)) (ns 0).2, x.2)
      else none
termination_by rest.size
decreasing_by
  simp only [ByteArray.size_extract]
  omega
theorem L_append (a b : ByteArray) : L (a ++ b) = L a ++ L b := by simp [L, ByteArray.data_append]
theorem kidT_erase (ks : List Nd) (i : Nat) (x : Nat) (hi : i < ks.length) (hp : (ks.map fb).Pairwise (· < ·)) : kidT (ks.eraseIdx i) x = if fb ks[i] = x then none else kidT ks x := by
  have e2 : ks = ks.take i ++ ks[i] :: ks.drop (i + 1) := by
    rw [← List.drop_eq_getElem_cons hi, List.take_append_drop]
  have hlo : ∀ k ∈ ks.take i, fb k < fb ks[i] := fun k hk => by
    obtain ⟨j, hj, ej⟩ := List.getElem_of_mem hk
    rw [List.length_take] at hj
    have h2 := List.pairwise_iff_getElem.1 hp j i (by rw [List.length_map]; omega) (by rw [List.length_map]; exact hi) (by omega)
    rw [List.getElem_map, List.getElem_map] at h2
    rw [List.getElem_take] at ej
    rw [← ej]
    exact h2
  have hhi : ∀ k ∈ ks.drop (i + 1), fb ks[i] < fb k := fun k hk => by
    obtain ⟨j, hj, ej⟩ := List.getElem_of_mem hk
    rw [List.length_drop] at hj
    have h2 := List.pairwise_iff_getElem.1 hp i (i + 1 + j) (by rw [List.length_map]; exact hi) (by rw [List.length_map]; omega) (by omega)
    rw [List.getElem_map, List.getElem_map] at h2
    rw [List.getElem_drop] at ej
    rw [← ej]
    exact h2
  unfold kidT
  rw [List.eraseIdx_eq_take_drop_succ, List.find?_append]
  by_cases e : fb ks[i] = x
  · rw [if_pos e]
    have h1 : (ks.take i).find? (fun k => fb k == x) = none := by
      rw [List.find?_eq_none]
      intro k hk
      have := hlo k hk
      simp; omega
    have h2 : (ks.drop (i + 1)).find? (fun k => fb k == x) = none := by
      rw [List.find?_eq_none]
      intro k hk
      have := hhi k hk
      simp; omega
    rw [h1, h2]; rfl
  · rw [if_neg e]
    conv => rhs; rw [e2]
    rw [List.find?_append, List.find?_cons_of_neg (by simp [e])]
theorem prefix_split {a b r : List UInt8} : (a ++ b) <+: r ↔ a <+: r ∧ b <+: r.drop a.length := by
  constructor
  · rintro ⟨t, ht⟩
    rw [← ht, List.append_assoc]
    exact ⟨List.prefix_append _ _, by rw [List.drop_left]; exact List.prefix_append _ _⟩
  · rintro ⟨⟨s, hs⟩, ⟨t, ht⟩⟩
    rw [← hs, List.drop_left] at ht
    exact ⟨t, by rw [List.append_assoc, ht, hs]⟩
theorem findT_only {n k : Nd} (hl : n.leaf = none) (hk : n.kids = [k]) (r : List UInt8) (hpos : 0 < k.label.size) : findT n r = below r k := by
  by_cases hr : r = []
  · subst hr
    rw [findT_nil, hl]
    unfold below
    rw [if_neg]
    rintro ⟨_, h⟩
    exact L_ne hpos (List.prefix_nil.1 h)
  · rw [findT_eq _ _ hr, hk]
    unfold kidT
    by_cases e : fb k = hd r
    · rw [List.find?_cons_of_pos (by simp [e])]; rfl
    · rw [List.find?_cons_of_neg (by simp [e])]
      simp only [List.find?_nil, Option.bind_none]
      unfold below
      rw [if_neg]
      rintro ⟨_, t, ht⟩
      apply e
      rw [fb_hd, ← ht, hd_append (L_ne hpos)]
theorem findT_join (n k : Nd) (b : Nat) (r : List UInt8) : findT (joinN n k b) r = findT k r := by
  by_cases hr : r = []
  · subst hr; rw [findT_nil, findT_nil]; rfl
  · rw [findT_eq _ _ hr, findT_eq _ _ hr]; rfl
theorem shaped_cases (n : Nd) (b : Nat) : (shapedN n b = some n ∧ (n.leaf.isSome = true ∨ 1 < n.kids.length)) ∨ (n.leaf = none ∧ n.kids = [] ∧ shapedN n b = none) ∨ ∃ k, n.leaf = none ∧ n.kids = [k] ∧ shapedN n b = some (joinN n k b) := by
  unfold shapedN
  by_cases h : n.leaf.isSome = true ∨ 1 < n.kids.length
  · rw [if_pos h]; exact .inl ⟨rfl, h⟩
  · rw [if_neg h]
    have h1 : n.leaf = none := by cases e : n.leaf with | none => rfl | some l => exact absurd (.inl (by rw [e]; rfl)) h
    cases e : n.kids with
    | nil => exact .inr (.inl ⟨h1, rfl, rfl⟩)
    | cons k ks =>
      cases ks with
      | nil => exact .inr (.inr ⟨k, h1, rfl, rfl⟩)
      | cons k2 ks => exact absurd (.inr (by rw [e]; simp)) h
theorem shaped_some {n s : Nd} {b : Nat} (ho : Ok n) (hpos : 0 < n.label.size) (h : shapedN n b = some s) : fb s = fb n ∧ 0 < s.label.size ∧ Ok s ∧ ∀ r, below r s = below r n := by
  rcases shaped_cases n b with ⟨e, _⟩ | ⟨_, _, e⟩ | ⟨k, hl, hk, e⟩
  · rw [e] at h; cases h; exact ⟨rfl, hpos, ho, fun _ => rfl⟩
  · rw [e] at h; cases h
  · rw [e] at h; cases h
    have hkm : k ∈ n.kids := by rw [hk]; simp
    have hkp := ho.parts.2.1 k hkm
    have hok := ho.parts.2.2.get k hkm
    have hsz : (n.label ++ k.label).size = n.label.size + k.label.size := by rw [ByteArray.size_append]
    refine ⟨?_, by show 0 < (n.label ++ k.label).size; omega, Ok.mk' hok.parts.1 hok.parts.2.1 (fun x hx => hok.parts.2.2.get x hx), fun r => ?_⟩
    · rw [fb_hd, fb_hd]
      show hd (L (n.label ++ k.label)) = _
      rw [L_append, hd_append (L_ne hpos)]
    · unfold below
      have e1 : (joinN n k b).label = n.label ++ k.label := rfl
      rw [e1, L_append, hsz]
      have e2 : r.drop (n.label.size + k.label.size) = (r.drop n.label.size).drop k.label.size := by rw [List.drop_drop]
      rw [e2]
      by_cases h1 : L n.label <+: r
      · rw [if_pos (show 0 < n.label.size ∧ L n.label <+: r from ⟨hpos, h1⟩), findT_only hl hk _ hkp]
        unfold below
        have h2 : L n.label ++ L k.label <+: r ↔ L k.label <+: r.drop n.label.size := by
          rw [prefix_split, L_len]
          exact ⟨fun h => h.2, fun h => ⟨h1, h⟩⟩
        by_cases h3 : L k.label <+: r.drop n.label.size
        · rw [if_pos ⟨by omega, h2.2 h3⟩, if_pos ⟨hkp, h3⟩, findT_join]
        · rw [if_neg (fun h => h3 (h2.1 h.2)), if_neg (fun h => h3 h.2)]
      · rw [if_neg (fun h => h1 (prefix_split.1 h.2).1), if_neg (fun h => h1 h.2)]
theorem shaped_none {n : Nd} {b : Nat} (h : shapedN n b = none) (r : List UInt8) : findT n r = none := by
  rcases shaped_cases n b with ⟨e, _⟩ | ⟨hl, hk, _⟩ | ⟨k, _, _, e⟩
  · rw [e] at h; cases h
  · by_cases hr : r = []
    · subst hr; rw [findT_nil, hl]
    · rw [findT_eq _ _ hr, hk]; rfl
  · rw [e] at h; cases h
theorem fb_label {a b : Nd} (h : a.label = b.label) : fb a = fb b := by rw [fb_hd, fb_hd, h]
theorem del_find : ∀ (N : Nat) (rest : ByteArray), rest.size ≤ N → ∀ n, Ok n → ∀ ns : Sup,
    (findT n (L rest) = none → delN n rest ns = none) ∧ ∀ l, findT n (L rest) = some l → ∃ m, delN n rest ns = some (m, l) ∧ m.label = n.label ∧ Ok m ∧ ∀ r, findT m r = if r = L rest then none else findT n r := by
  intro N
  induction N with
  | zero =>
    intro rest hN n ho ns
    have e : L rest = [] := List.length_eq_zero_iff.1 (by rw [L_len]; omega)
    rw [delN, dif_pos (by omega), e, findT_nil]
    refine ⟨fun h => by rw [h]; rfl, fun l h => ⟨.mk (ns 0).1 n.label none n.kids (ns 0).2, by rw [h]; rfl, rfl, Ok.mk' ho.parts.1 ho.parts.2.1 (fun x hx => ho.parts.2.2.get x hx), fun r => ?_⟩⟩
    by_cases hr : r = []
    · rw [if_pos hr, hr, findT_nil]; rfl
    · rw [if_neg hr, findT_eq _ _ hr, findT_eq _ _ hr]; rfl
  | succ N ih =>
    intro rest hN n ho ns
    by_cases h0 : rest.size = 0
    · have e : L rest = [] := List.length_eq_zero_iff.1 (by rw [L_len]; omega)
      rw [delN, dif_pos h0, e, findT_nil]
      refine ⟨fun h => by rw [h]; rfl, fun l h => ⟨.mk (ns 0).1 n.label none n.kids (ns 0).2, by rw [h]; rfl, rfl, Ok.mk' ho.parts.1 ho.parts.2.1 (fun x hx => ho.parts.2.2.get x hx), fun r => ?_⟩⟩
      by_cases hr : r = []
      · rw [if_pos hr, hr, findT_nil]; rfl
      · rw [if_neg hr, findT_eq _ _ hr, findT_eq _ _ hr]; rfl
    · have hne : L rest ≠ [] := fun e => h0 (by rw [← L_len, e]; rfl)
      have hq := kidN_eq n ho rest
      have hdn := downN_eq n ho rest h0
      rw [delN, dif_neg h0, findT_eq _ _ hne]
      cases e : kidT n.kids (hd (L rest)) with
      | none =>
        rw [e] at hdn
        have hdn' : downN n rest = none := hdn
        rw [hdn']
        exact ⟨fun _ => rfl, fun l h => by cases h⟩
      | some k =>
        rw [e] at hdn hq
        simp only [Option.bind_some] at hdn ⊢
        obtain ⟨hh, hlt, ek⟩ := kidN_some hq
        have hkm : k ∈ n.kids := (kidT_some e).1
        have hfk := (kidT_some e).2
        have hpos := ho.parts.2.1 k hkm
        by_cases hp : L k.label <+: L rest
        · rw [if_pos hp] at hdn
          rw [hdn]
          unfold below
          rw [if_pos ⟨hpos, hp⟩]
          simp only []
          rw [dif_pos hpos]
          have hI := ih (rest.extract k.label.size rest.size) (by simp only [ByteArray.size_extract]; omega) k (ho.parts.2.2.get k hkm) (fun j => ns (j + 2))
          rw [L_tail] at hI
          refine ⟨fun h => by rw [hI.1 h]; rfl, fun l h => ?_⟩
          obtain ⟨low, h1, h2, h3, h4⟩ := hI.2 l h
          rw [h1]
          refine ⟨_, rfl, rfl, ?_, fun r => ?_⟩
          · -- in order
            have hlow : 0 < low.label.size := by rw [h2]; exact hpos
            cases hs : shapedN low (ns 1).1 with
            | none =>
              refine Ok.mk' ?_ (fun x hx => ho.parts.2.1 x (List.mem_of_mem_eraseIdx hx)) (fun x hx => ho.parts.2.2.get x (List.mem_of_mem_eraseIdx hx))
              exact ho.parts.1.sublist ((List.eraseIdx_sublist _ _).map fb)
            | some s =>
              obtain ⟨s1, s2, s3, s4⟩ := shaped_some h3 hlow hs
              refine Ok.mk' ?_ (fun x hx => ?_) (fun x hx => ?_)
              · show ((n.kids.set _ s).map fb).Pairwise (· < ·)
                rw [map_set_same _ _ _ hlt (by rw [s1, fb_label h2, ek])]; exact ho.parts.1
              · rcases List.mem_or_eq_of_mem_set hx with e | e
                · exact ho.parts.2.1 x e
                · rw [e]; exact s2
              · rcases List.mem_or_eq_of_mem_set hx with e | e
                · exact ho.parts.2.2.get x e
                · rw [e]; exact s3
          · -- what it holds
            by_cases hr : r = []
            · rw [if_neg (fun e => hne (by rw [← e, hr])), hr, findT_nil, findT_nil]; rfl
            · have hlow : 0 < low.label.size := by rw [h2]; exact hpos
              have hbl : below r low = if r = L rest then none else below r k := by
                unfold below
                rw [h2]
                by_cases hpr : 0 < k.label.size ∧ L k.label <+: r
                · rw [if_pos hpr, if_pos hpr, h4]
                  have hiff : r.drop k.label.size = (L rest).drop k.label.size ↔ r = L rest := by
                    obtain ⟨a, ha⟩ := hpr.2
                    obtain ⟨c, hc⟩ := hp
                    have hl : (L k.label).length = k.label.size := L_len _
                    rw [← ha, ← hc, ← hl, List.drop_left, List.drop_left]
                    exact ⟨fun e => by rw [e], fun e => List.append_cancel_left e⟩
                  by_cases e2 : r = L rest
                  · rw [if_pos e2, if_pos (hiff.2 e2)]
                  · rw [if_neg e2, if_neg (fun h => e2 (hiff.1 h))]
                · rw [if_neg hpr, if_neg hpr]; split <;> rfl
              rw [findT_eq _ _ hr, findT_eq n _ hr]
              show (kidT (putKid n.kids _ _) (hd r)).bind (below r) = _
              by_cases hx : fb k = hd r
              · have hkr : kidT n.kids (hd r) = some k := by rw [← hx, hfk]; exact e
                rw [hkr]
                simp only [Option.bind_some]
                cases hs : shapedN low (ns 1).1 with
                | none =>
                  show (kidT (n.kids.eraseIdx _) (hd r)).bind (below r) = _
                  rw [kidT_erase n.kids _ _ hlt ho.parts.1, ek, if_pos hx]
                  have hb0 : below r low = none := by unfold below; split; exact shaped_none hs _; rfl
                  rw [hb0] at hbl
                  exact hbl
                | some s =>
                  obtain ⟨s1, s2, s3, s4⟩ := shaped_some h3 hlow hs
                  show (kidT (n.kids.set _ s) (hd r)).bind (below r) = _
                  rw [kidT_set n.kids _ s (hd r) hlt (by rw [s1, fb_label h2, ek]) ho.parts.1, if_pos (by rw [s1, fb_label h2]; exact hx)]
                  simp only [Option.bind_some]
                  rw [s4, hbl]
              · have hne2 : r ≠ L rest := fun e => hx (by rw [e]; exact hfk)
                rw [if_neg hne2]
                cases hs : shapedN low (ns 1).1 with
                | none =>
                  show (kidT (n.kids.eraseIdx _) (hd r)).bind (below r) = _
                  rw [kidT_erase n.kids _ _ hlt ho.parts.1, ek, if_neg hx]
                | some s =>
                  obtain ⟨s1, s2, s3, s4⟩ := shaped_some h3 hlow hs
                  show (kidT (n.kids.set _ s) (hd r)).bind (below r) = _
                  rw [kidT_set n.kids _ s (hd r) hlt (by rw [s1, fb_label h2, ek]) ho.parts.1, if_neg (by rw [s1, fb_label h2]; exact hx)]
        · rw [if_neg hp] at hdn
          rw [hdn]
          unfold below
          rw [if_neg (fun h => hp h.2)]
          exact ⟨fun _ => rfl, fun l h => by cases h⟩
end Go.Proofs.Ytkaeglnnahecjaa.T
/- radix, plain: ways through a tree are short; every node beneath the root has a leaf or two kids. -/
set_option linter.unusedVariables false
set_option linter.unusedSimpArgs false
namespace Go.Proofs.Ytkaeglnnahecjaa.T

mutual
/-- every way down from n has at most B letters -/
def Fits : Nd → Nat → Prop
  | .mk _ label _ kids _, B => label.size ≤ B ∧ Fitss kids (B - label.size)
def Fitss : List Nd → Nat → Prop
  | [], _ => True
  | n :: r, B => Fits n B ∧ Fitss r B
end
theorem Fits.parts {n : Nd} {B : Nat} (h : Fits n B) : n.label.size ≤ B ∧ Fitss n.kids (B - n.label.size) := by
  cases n; unfold Fits at h; exact h
theorem Fits.mk' {b : Nat} {label : ByteArray} {leaf : Option Lf} {kids : List Nd} {m : Value} {B : Nat} (h : label.size ≤ B) (hk : Fitss kids (B - label.size)) : Fits (.mk b label leaf kids m) B := by
  unfold Fits; exact ⟨h, hk⟩
theorem Fitss.mem {B : Nat} : ∀ {ks : List Nd}, Fitss ks B → ∀ k ∈ ks, Fits k B
  | n :: r, h, k, hk => by
    unfold Fitss at h
    rcases List.mem_cons.1 hk with e | e
    · rw [e]; exact h.1
    · exact Fitss.mem h.2 k e
theorem Fitss.of {B : Nat} : ∀ {ks : List Nd}, (∀ k ∈ ks, Fits k B) → Fitss ks B
  | [], _ => by unfold Fitss; trivial
  | n :: r, h => by unfold Fitss; exact ⟨h n (by simp), Fitss.of (fun k hk => h k (by simp [hk]))⟩
mutual
theorem Fits.mono {B B' : Nat} (hb : B ≤ B') : ∀ n : Nd, Fits n B → Fits n B'
  | .mk b label leaf kids mark, h => by
    have h2 := h.parts
    exact Fits.mk' (Nat.le_trans h2.1 hb) (Fitss.mono (Nat.sub_le_sub_right hb _) kids h2.2)
theorem Fitss.mono {B B' : Nat} (hb : B ≤ B') : ∀ ks : List Nd, Fitss ks B → Fitss ks B'
  | [], _ => by unfold Fitss; trivial
  | n :: r, h => by unfold Fitss at h ⊢; exact ⟨Fits.mono hb n h.1, Fitss.mono hb r h.2⟩
end
mutual
theorem Fits.sm {B : Nat} (hb : B < 4000000000000) : ∀ n : Nd, Fits n B → Sm n
  | .mk b label leaf kids mark, h => by
    have h2 := h.parts
    have h3 : label.size ≤ B := h2.1
    unfold Sm
    exact ⟨by omega, Fitss.sm (B := B - label.size) (by omega) kids h2.2⟩
theorem Fitss.sm {B : Nat} (hb : B < 4000000000000) : ∀ ks : List Nd, Fitss ks B → Sms ks
  | [], _ => by unfold Sms; trivial
  | n :: r, h => by unfold Fitss at h; unfold Sms; exact ⟨Fits.sm hb n h.1, Fitss.sm hb r h.2⟩
end
theorem fits_tip (s : ByteArray) (l : Lf) (a : Nat × Value) (B : Nat) (h : s.size ≤ B) : Fits (tipN s l a) B := Fits.mk' h (by unfold Fitss; trivial)
theorem fits_low (k : Nd) (p b B : Nat) (hp : p ≤ k.label.size) (h : Fits k B) : Fits (lowN k p b) (B - p) := by
  have h2 := h.parts
  have e : (k.label.extract p k.label.size).size = k.label.size - p := by simp only [ByteArray.size_extract]; omega
  refine Fits.mk' (by rw [e]; omega) ?_
  rw [e]
  have e2 : B - p - (k.label.size - p) = B - k.label.size := by omega
  rw [e2]
  exact h2.2
theorem fits_ins : ∀ (N : Nat) (rest : ByteArray), rest.size ≤ N → ∀ (n : Nd) (B : Nat), n.label.size + rest.size ≤ B → Fits n B → ∀ (l : Lf) (ns : Sup), Fits (insN n rest l ns) B := by
  intro N
  induction N with
  | zero =>
    intro rest hN n B hb hf l ns
    rw [insN, dif_pos (by omega)]
    exact Fits.mk' hf.parts.1 hf.parts.2
  | succ N ih =>
    intro rest hN n B hb hf l ns
    rw [insN]
    split
    · exact Fits.mk' hf.parts.1 hf.parts.2
    · split
      · refine Fits.mk' hf.parts.1 (Fitss.of fun k hk => ?_)
        rcases mem_insAt hk with e | e
        · rw [e]; exact fits_tip _ _ _ _ (by omega)
        · exact hf.parts.2.mem k e
      · rename_i k e
        obtain ⟨hh, hlt, ek⟩ := kidN_some e
        have hkm : k ∈ n.kids := by rw [← ek]; exact List.getElem_mem _
        have hfk := hf.parts.2.mem k hkm
        have hle := comB_le k.label rest
        split
        · rename_i hp
          refine Fits.mk' hf.parts.1 (Fitss.of fun k' hk' => ?_)
          rcases List.mem_or_eq_of_mem_set hk' with e | e
          · exact hf.parts.2.mem k' e
          · rw [e]
            refine ih _ (by simp only [ByteArray.size_extract]; omega) k _ ?_ hfk l _
            simp only [ByteArray.size_extract]
            omega
        · refine Fits.mk' hf.parts.1 (Fitss.of fun k' hk' => ?_)
          rcases List.mem_or_eq_of_mem_set hk' with e | e
          · exact hf.parts.2.mem k' e
          · rw [e]
            have hlow := fits_low k (comB k.label rest) (ns 2).1 _ hle.1 hfk
            have es : (rest.extract 0 (comB k.label rest)).size = comB k.label rest := by simp only [ByteArray.size_extract]; omega
            unfold splitN
            split
            · refine Fits.mk' (by rw [es]; omega) (Fitss.of fun k2 hk2 => ?_)
              rw [List.mem_singleton] at hk2
              rw [hk2, es]; exact hlow
            · refine Fits.mk' (by rw [es]; omega) (Fitss.of fun k2 hk2 => ?_)
              rw [es]
              rcases mem_insAt hk2 with e | e
              · rw [e]; exact fits_tip _ _ _ _ (by simp only [ByteArray.size_extract]; omega)
              · rw [List.mem_singleton] at e; rw [e]; exact hlow
theorem delN_some {n m : Nd} {rest : ByteArray} {ns : Sup} {l : Lf} (h : delN n rest ns = some (m, l)) :
    (rest.size = 0 ∧ n.leaf = some l ∧ m = .mk (ns 0).1 n.label none n.kids (ns 0).2) ∨
    (rest.size ≠ 0 ∧ ∃ k low, downN n rest = some k ∧ 0 < k.label.size ∧ delN k (rest.extract k.label.size rest.size) (fun j => ns (j + 2)) = some (low, l) ∧
      m = .mk (ns 0).1 n.label n.leaf (putKid n.kids (pos (n.kids.map fb) (fbS rest)) (shapedN low (ns 1).1)) (ns 0).2) := by
  rw [delN] at h
  by_cases h0 : rest.size = 0
  · rw [dif_pos h0] at h
    cases e : n.leaf with
    | none => rw [e] at h; cases h
    | some l' => rw [e] at h; cases h; exact .inl ⟨h0, rfl, rfl⟩
  · rw [dif_neg h0] at h
    cases e : downN n rest with
    | none => rw [e] at h; cases h
    | some k =>
      rw [e] at h
      simp only [] at h
      by_cases hp : 0 < k.label.size
      · rw [dif_pos hp] at h
        cases e2 : delN k (rest.extract k.label.size rest.size) (fun j => ns (j + 2)) with
        | none => rw [e2] at h; cases h
        | some x => rw [e2] at h; cases h; exact .inr ⟨h0, k, x.1, rfl, hp, e2, rfl⟩
      · rw [dif_neg hp] at h; cases h
theorem mem_putKid {ks : List Nd} {i : Nat} {o : Option Nd} {x : Nd} (h : x ∈ putKid ks i o) : x ∈ ks ∨ o = some x := by
  cases o with
  | none => exact .inl (List.mem_of_mem_eraseIdx h)
  | some s =>
    rcases List.mem_or_eq_of_mem_set h with e | e
    · exact .inl e
    · exact .inr (by rw [e])
theorem fits_shaped {n s : Nd} {b B : Nat} (hf : Fits n B) (h : shapedN n b = some s) : Fits s B := by
  rcases shaped_cases n b with ⟨e, _⟩ | ⟨_, _, e⟩ | ⟨k, hl, hk, e⟩
  · rw [e] at h; cases h; exact hf
  · rw [e] at h; cases h
  · rw [e] at h; cases h
    have h2 := hf.parts
    have hfk := h2.2.mem k (by rw [hk]; simp)
    have h3 := hfk.parts
    refine Fits.mk' ?_ ?_
    · rw [ByteArray.size_append]; omega
    · rw [ByteArray.size_append, Nat.sub_add_eq]; exact h3.2
theorem fits_del : ∀ (N : Nat) (rest : ByteArray), rest.size ≤ N → ∀ (n m : Nd) (B : Nat) (ns : Sup) (l : Lf), Fits n B → delN n rest ns = some (m, l) → Fits m B := by
  intro N
  induction N with
  | zero =>
    intro rest hN n m B ns l hf h
    rcases delN_some h with ⟨h0, h1, h2⟩ | ⟨h0, _⟩
    · rw [h2]; exact Fits.mk' hf.parts.1 hf.parts.2
    · omega
  | succ N ih =>
    intro rest hN n m B ns l hf h
    rcases delN_some h with ⟨h0, h1, h2⟩ | ⟨h0, k, low, hd, hp, hdel, h2⟩
    · rw [h2]; exact Fits.mk' hf.parts.1 hf.parts.2
    · rw [h2]
      have hkm := (downN_some hd).1
      have hfl := ih (rest.extract k.label.size rest.size) (by simp only [ByteArray.size_extract]; omega) k low _ _ l (hf.parts.2.mem k hkm) hdel
      refine Fits.mk' hf.parts.1 (Fitss.of fun x hx => ?_)
      rcases mem_putKid hx with e | e
      · exact hf.parts.2.mem x e
      · exact fits_shaped hfl e
/-- a leaf, or two kids -/
def Full (n : Nd) : Prop := n.leaf.isSome = true ∨ 2 ≤ n.kids.length
mutual
/-- every node beneath n is full -/
def Br : Nd → Prop
  | .mk _ _ _ kids _ => Brs kids
def Brs : List Nd → Prop
  | [] => True
  | n :: r => (Full n ∧ Br n) ∧ Brs r
end
theorem Br.parts {n : Nd} (h : Br n) : Brs n.kids := by cases n; unfold Br at h; exact h
theorem Br.mk' {b : Nat} {label : ByteArray} {leaf : Option Lf} {kids : List Nd} {m : Value} (h : Brs kids) : Br (.mk b label leaf kids m) := by unfold Br; exact h
theorem Brs.mem : ∀ {ks : List Nd}, Brs ks → ∀ k ∈ ks, Full k ∧ Br k
  | n :: r, h, k, hk => by
    unfold Brs at h
    rcases List.mem_cons.1 hk with e | e
    · rw [e]; exact h.1
    · exact Brs.mem h.2 k e
theorem Brs.of : ∀ {ks : List Nd}, (∀ k ∈ ks, Full k ∧ Br k) → Brs ks
  | [], _ => by unfold Brs; trivial
  | n :: r, h => by unfold Brs; exact ⟨h n (by simp), Brs.of (fun k hk => h k (by simp [hk]))⟩
theorem full_ins (n : Nd) (rest : ByteArray) (l : Lf) (ns : Sup) (h : Full n) : Full (insN n rest l ns) := by
  unfold Full at h ⊢
  rw [insN]
  split
  · exact .inl rfl
  · split
    · refine h.imp id (fun h => ?_)
      show 2 ≤ (insAt _ _ n.kids).length
      unfold insAt
      rw [List.length_append, List.length_cons, List.length_take, List.length_drop]
      omega
    · split
      · refine h.imp id (fun h => ?_)
        show 2 ≤ (n.kids.set _ _).length
        rw [List.length_set]; exact h
      · refine h.imp id (fun h => ?_)
        show 2 ≤ (n.kids.set _ _).length
        rw [List.length_set]; exact h
theorem br_tip (s : ByteArray) (l : Lf) (a : Nat × Value) : Full (tipN s l a) ∧ Br (tipN s l a) := ⟨.inl rfl, Br.mk' (by unfold Brs; trivial)⟩
theorem br_ins : ∀ (N : Nat) (rest : ByteArray), rest.size ≤ N → ∀ (n : Nd), Br n → ∀ (l : Lf) (ns : Sup), Br (insN n rest l ns) := by
  intro N
  induction N with
  | zero =>
    intro rest hN n hb l ns
    rw [insN, dif_pos (by omega)]
    exact Br.mk' hb.parts
  | succ N ih =>
    intro rest hN n hb l ns
    rw [insN]
    split
    · exact Br.mk' hb.parts
    · split
      · refine Br.mk' (Brs.of fun k hk => ?_)
        rcases mem_insAt hk with e | e
        · rw [e]; exact br_tip _ _ _
        · exact hb.parts.mem k e
      · rename_i k e
        obtain ⟨hh, hlt, ek⟩ := kidN_some e
        have hkm : k ∈ n.kids := by rw [← ek]; exact List.getElem_mem _
        have hbk := hb.parts.mem k hkm
        split
        · refine Br.mk' (Brs.of fun k' hk' => ?_)
          rcases List.mem_or_eq_of_mem_set hk' with e | e
          · exact hb.parts.mem k' e
          · rw [e]
            exact ⟨full_ins k _ l _ hbk.1, ih _ (by simp only [ByteArray.size_extract]; omega) k hbk.2 l _⟩
        · refine Br.mk' (Brs.of fun k' hk' => ?_)
          rcases List.mem_or_eq_of_mem_set hk' with e | e
          · exact hb.parts.mem k' e
          · rw [e]
            have hlow : Full (lowN k (comB k.label rest) (ns 2).1) ∧ Br (lowN k (comB k.label rest) (ns 2).1) := ⟨hbk.1, Br.mk' hbk.2.parts⟩
            unfold splitN
            split
            · refine ⟨.inl rfl, Br.mk' (Brs.of fun k2 hk2 => ?_)⟩
              rw [List.mem_singleton] at hk2
              rw [hk2]; exact hlow
            · refine ⟨.inr ?_, Br.mk' (Brs.of fun k2 hk2 => ?_)⟩
              · show 2 ≤ (insAt _ _ [_]).length
                unfold insAt
                rw [List.length_append, List.length_cons, List.length_take, List.length_drop]
                simp only [List.length_singleton]
                omega
              · rcases mem_insAt hk2 with e | e
                · rw [e]; exact br_tip _ _ _
                · rw [List.mem_singleton] at e; rw [e]; exact hlow
theorem br_shaped {n s : Nd} {b : Nat} (hb : Br n) (h : shapedN n b = some s) : Full s ∧ Br s := by
  rcases shaped_cases n b with ⟨e, hf⟩ | ⟨_, _, e⟩ | ⟨k, hl, hk, e⟩
  · rw [e] at h; cases h; exact ⟨hf, hb⟩
  · rw [e] at h; cases h
  · rw [e] at h; cases h
    have h2 := hb.parts.mem k (by rw [hk]; simp)
    exact ⟨h2.1, Br.mk' h2.2.parts⟩
theorem br_del : ∀ (N : Nat) (rest : ByteArray), rest.size ≤ N → ∀ (n m : Nd) (ns : Sup) (l : Lf), Br n → delN n rest ns = some (m, l) → Br m := by
  intro N
  induction N with
  | zero =>
    intro rest hN n m ns l hf h
    rcases delN_some h with ⟨h0, h1, h2⟩ | ⟨h0, _⟩
    · rw [h2]; exact Br.mk' hf.parts
    · omega
  | succ N ih =>
    intro rest hN n m ns l hf h
    rcases delN_some h with ⟨h0, h1, h2⟩ | ⟨h0, k, low, hd, hp, hdel, h2⟩
    · rw [h2]; exact Br.mk' hf.parts
    · rw [h2]
      have hkm := (downN_some hd).1
      have hbl := ih (rest.extract k.label.size rest.size) (by simp only [ByteArray.size_extract]; omega) k low _ l (hf.parts.mem k hkm).2 hdel
      refine Br.mk' (Brs.of fun x hx => ?_)
      rcases mem_putKid hx with e | e
      · exact hf.parts.mem x e
      · exact br_shaped hbl e
/-- a tree as Insert and Delete make it -/
structure Fine (root : Nd) : Prop extends Good root where
  fits : Fits root 3999999999999
  br : Br root
theorem fine_empty (b : Nat) (m : Value) : Fine (emptyN b m) := ⟨good_empty b m, Fits.mk' (by decide) (by unfold Fitss; trivial), Br.mk' (by unfold Brs; trivial)⟩
theorem fine_ins {root : Nd} (h : Fine root) (k : ByteArray) (hk : k.size < 4000000000000) (l : Lf) (hl : l.key = k) (ns : Sup) : Fine (insN root k l ns) :=
  ⟨good_ins h.toGood k hk l hl ns, fits_ins k.size k (Nat.le_refl _) root _ (by have := h.top; omega) h.fits l ns, br_ins k.size k (Nat.le_refl _) root h.br l ns⟩
theorem fine_del {root m : Nd} (h : Fine root) (k : ByteArray) (l : Lf) (ns : Sup) (hd : delN root k ns = some (m, l)) : Fine m ∧ findT root (L k) = some l ∧ ∀ r, findT m r = if r = L k then none else findT root r := by
  have hd2 := del_find k.size k (Nat.le_refl _) root h.ok ns
  have hf := fits_del k.size k (Nat.le_refl _) root m _ ns l h.fits hd
  cases e : findT root (L k) with
  | none => rw [hd2.1 e] at hd; cases hd
  | some l' =>
    obtain ⟨m', h1, h2, h3, h4⟩ := hd2.2 l' e
    rw [hd] at h1
    cases h1
    refine ⟨⟨⟨h3, hf.sm (by omega), by rw [h2]; exact h.top, fun r l2 h5 => ?_⟩, hf, br_del k.size k (Nat.le_refl _) root m ns l h.br hd⟩, rfl, h4⟩
    rw [h4] at h5
    split at h5
    · cases h5
    · exact h.keys r l2 h5
theorem all_del {root m : Nd} (h : Fine root) (k : ByteArray) (l : Lf) (ns : Sup) (hd : delN root k ns = some (m, l)) : All m = (All root).filter (fun e => decide (e.1 ≠ L k)) := by
  obtain ⟨hm, _, hf⟩ := fine_del h k l ns hd
  refine rise_ext (all_rise hm.toGood) ((all_rise h.toGood).filter _) (fun x => ?_)
  obtain ⟨q, l'⟩ := x
  rw [mem_all hm.toGood, hf, List.mem_filter, mem_all h.toGood]
  by_cases e : q = L k
  · rw [if_pos e]; simp [e]
  · rw [if_neg e]; simp [e]
end Go.Proofs.Ytkaeglnnahecjaa.T
/- radix, plain: the nodes of a tree by their paths; they are those that the keys fix. -/
set_option linter.unusedVariables false
set_option linter.unusedSimpArgs false
namespace Go.Proofs.Ytkaeglnnahecjaa.T

/-- the node at r beneath n -/
def nodeT (n : Nd) (r : List UInt8) : Option Nd :=
  if h0 : r = [] then some n
  else match kidT n.kids (hd r) with
    | none => none
    | some k => if h : 0 < k.label.size ∧ L k.label <+: r then nodeT k (r.drop k.label.size) else none
termination_by r.length
decreasing_by
  have : 0 < r.length := by cases r with | nil => exact absurd rfl h0 | cons a b => simp
  rw [List.length_drop]
  omega
theorem nodeT_nil (n : Nd) : nodeT n [] = some n := by rw [nodeT, dif_pos rfl]
def beneath (r : List UInt8) (k : Nd) : Option Nd := if 0 < k.label.size ∧ L k.label <+: r then nodeT k (r.drop k.label.size) else none
theorem nodeT_eq (n : Nd) (r : List UInt8) (h : r ≠ []) : nodeT n r = (kidT n.kids (hd r)).bind (beneath r) := by
  rw [nodeT, dif_neg h]
  cases kidT n.kids (hd r) with
  | none => rfl
  | some k =>
    simp only [Option.bind_some, beneath]
    by_cases h2 : 0 < k.label.size ∧ L k.label <+: r
    · rw [dif_pos h2, if_pos h2]
    · rw [dif_neg h2, if_neg h2]
theorem nodeT_kid {n : Nd} (ho : Ok n) {k : Nd} (hk : k ∈ n.kids) (r : List UInt8) : nodeT n (L k.label ++ r) = nodeT k r := by
  have hpos := ho.parts.2.1 k hk
  have hne := L_ne hpos
  rw [nodeT_eq _ _ (by simp [hne]), hd_append hne]
  have hf : hd (L k.label) = fb k := (fb_hd k).symm
  rw [hf, kidT_of_mem ho.parts.1 hk]
  simp only [Option.bind_some, beneath]
  rw [if_pos ⟨hpos, List.prefix_append _ _⟩]
  congr 1
  rw [← L_len, List.drop_left]
theorem nodeT_of {n : Nd} (ho : Ok n) {r : List UInt8} {x : Nd} (h : nodeT n r = some x) : (r = [] ∧ x = n) ∨ ∃ k ∈ n.kids, ∃ t, r = L k.label ++ t ∧ nodeT k t = some x := by
  by_cases hr : r = []
  · subst hr; rw [nodeT_nil] at h; cases h; exact .inl ⟨rfl, rfl⟩
  · rw [nodeT_eq _ _ hr] at h
    cases e : kidT n.kids (hd r) with
    | none => rw [e] at h; cases h
    | some k =>
      rw [e] at h
      simp only [Option.bind_some, beneath] at h
      split at h
      · rename_i hp
        obtain ⟨t, ht⟩ := hp.2
        refine .inr ⟨k, (kidT_some e).1, t, ht.symm, ?_⟩
        rw [← ht, ← L_len, List.drop_left] at h
        exact h
      · cases h
theorem findT_node : ∀ (N : Nat) (n : Nd) (r : List UInt8), r.length ≤ N → findT n r = (nodeT n r).bind Nd.leaf := by
  intro N
  induction N with
  | zero =>
    intro n r h
    have : r = [] := List.length_eq_zero_iff.1 (by omega)
    subst this
    rw [findT_nil, nodeT_nil]; rfl
  | succ N ih =>
    intro n r h
    by_cases hr : r = []
    · subst hr; rw [findT_nil, nodeT_nil]; rfl
    · rw [findT_eq _ _ hr, nodeT_eq _ _ hr]
      cases e : kidT n.kids (hd r) with
      | none => rfl
      | some k =>
        simp only [Option.bind_some, below, beneath]
        by_cases hp : 0 < k.label.size ∧ L k.label <+: r
        · rw [if_pos hp, if_pos hp]
          exact ih k _ (by rw [List.length_drop]; omega)
        · rw [if_neg hp, if_neg hp]; rfl
mutual
/-- a node that is full has something beneath it -/
theorem some_beneath : ∀ n : Nd, Ok n → Full n → Br n → ∃ t l, findT n t = some l
  | .mk b label leaf kids mark, ho, hf, hb => by
    cases leaf with
    | some l => exact ⟨[], l, by rw [findT_nil]; rfl⟩
    | none =>
      have h2 : 2 ≤ kids.length := hf.resolve_left (fun h => by cases h)
      cases kids with
      | nil => simp at h2
      | cons k ks =>
        obtain ⟨t, l, h⟩ := some_kid (k :: ks) ho.parts.2.2 hb.parts k (by simp)
        exact ⟨L k.label ++ t, l, by rw [findT_kid ho (show k ∈ (Nd.mk b label none (k :: ks) mark).kids by simp [Nd.kids])]; exact h⟩
theorem some_kid : ∀ ks : List Nd, Oks ks → Brs ks → ∀ k ∈ ks, ∃ t l, findT k t = some l
  | [], _, _, k, hk => by simp at hk
  | n :: r, ho, hb, k, hk => by
    unfold Oks at ho
    unfold Brs at hb
    rcases List.mem_cons.1 hk with e | e
    · rw [e]; exact some_beneath n ho.1 hb.1.1 hb.1.2
    · exact some_kid r ho.2 hb.2 k e
end
/-- two keys part right behind r -/
def Parts (n : Nd) (r : List UInt8) : Prop := ∃ a b s t, a ≠ b ∧ findT n (r ++ a :: s) ≠ none ∧ findT n (r ++ b :: t) ≠ none
theorem some_ne {α : Type} {o : Option α} (h : o ≠ none) : ∃ x, o = some x := by cases o with | none => exact absurd rfl h | some x => exact ⟨x, rfl⟩
theorem fork_of {n : Nd} (ho : Ok n) (hb : Br n) (h : 2 ≤ n.kids.length) : Parts n [] := by
  cases e : n.kids with
  | nil => rw [e] at h; simp at h
  | cons k1 r1 =>
    cases r1 with
    | nil => rw [e] at h; simp at h
    | cons k2 r2 =>
      have m1 : k1 ∈ n.kids := by rw [e]; simp
      have m2 : k2 ∈ n.kids := by rw [e]; simp
      obtain ⟨t1, l1, h1⟩ := some_kid n.kids ho.parts.2.2 hb.parts k1 m1
      obtain ⟨t2, l2, h2⟩ := some_kid n.kids ho.parts.2.2 hb.parts k2 m2
      have p1 := L_ne (ho.parts.2.1 k1 m1)
      have p2 := L_ne (ho.parts.2.1 k2 m2)
      have hlt : fb k1 < fb k2 := by
        have := ho.parts.1
        rw [e] at this
        exact (List.pairwise_cons.1 this).1 (fb k2) (by simp)
      rw [← findT_kid ho m1] at h1
      rw [← findT_kid ho m2] at h2
      rw [fb_hd, fb_hd] at hlt
      cases e1 : L k1.label with
      | nil => exact absurd e1 p1
      | cons a s =>
        cases e2 : L k2.label with
        | nil => exact absurd e2 p2
        | cons b t =>
          rw [e1] at h1 hlt
          rw [e2] at h2 hlt
          refine ⟨a, b, s ++ t1, t ++ t2, fun e => ?_, ?_, ?_⟩
          · subst e; exact absurd hlt (Nat.lt_irrefl _)
          · show findT n (a :: s ++ t1) ≠ none
            rw [h1]; simp
          · show findT n (b :: t ++ t2) ≠ none
            rw [h2]; simp
theorem node_iff : ∀ (N : Nat) (n : Nd) (r : List UInt8), r.length ≤ N → r ≠ [] → Ok n → Br n → (nodeT n r ≠ none ↔ findT n r ≠ none ∨ Parts n r) := by
  intro N
  induction N with
  | zero => intro n r h hr; exact absurd (List.length_eq_zero_iff.1 (by omega)) hr
  | succ N ih =>
    intro n r h hr ho hb
    constructor
    · intro hn
      obtain ⟨x, hx⟩ := some_ne hn
      rcases nodeT_of ho hx with ⟨e, _⟩ | ⟨k, hk, t, e, hx2⟩
      · exact absurd e hr
      · have hbk := hb.parts.mem k hk
        have hok := ho.parts.2.2.get k hk
        have hpk := L_ne (ho.parts.2.1 k hk)
        by_cases ht : t = []
        · subst ht
          rw [List.append_nil] at e
          subst e
          rcases hbk.1 with hl | hl
          · refine .inl ?_
            have := findT_kid ho hk []
            rw [List.append_nil, findT_nil] at this
            rw [this]
            intro e; rw [e] at hl; cases hl
          · obtain ⟨a, b, s, t, hab, h1, h2⟩ := fork_of hok hbk.2 hl
            refine .inr ⟨a, b, s, t, hab, ?_, ?_⟩
            · rw [findT_kid ho hk]; exact h1
            · rw [findT_kid ho hk]; exact h2
        · have hlen : t.length ≤ N := by
            have h1 := congrArg List.length e
            have h2 : 0 < (L k.label).length := List.length_pos_iff.2 hpk
            rw [List.length_append] at h1
            omega
          have := (ih k t hlen ht hok hbk.2).1 (by rw [hx2]; simp)
          rw [e]
          rcases this with h1 | ⟨a, b, s, u, hab, h1, h2⟩
          · exact .inl (by rw [findT_kid ho hk]; exact h1)
          · refine .inr ⟨a, b, s, u, hab, ?_, ?_⟩
            · rw [List.append_assoc, findT_kid ho hk]; exact h1
            · rw [List.append_assoc, findT_kid ho hk]; exact h2
    · rintro (h1 | ⟨a, b, s, t, hab, h1, h2⟩)
      · rw [findT_node _ n r (Nat.le_refl _)] at h1
        intro e
        rw [e] at h1
        exact h1 rfl
      · obtain ⟨l1, e1⟩ := some_ne h1
        obtain ⟨l2, e2⟩ := some_ne h2
        rcases findT_of ho e1 with ⟨e, _⟩ | ⟨k, hk, u, eu, hu⟩
        · simp at e
        · rcases findT_of ho e2 with ⟨e, _⟩ | ⟨k', hk', u', eu', hu'⟩
          · simp at e
          · have hpk := L_ne (ho.parts.2.1 k hk)
            have hpk' := L_ne (ho.parts.2.1 k' hk')
            have hkk : k = k' := by
              have f1 : hd r = fb k := by rw [← hd_append (y := a :: s) hr, eu, hd_append hpk, fb_hd]
              have f2 : hd r = fb k' := by rw [← hd_append (y := b :: t) hr, eu', hd_append hpk', fb_hd]
              have g1 := kidT_of_mem ho.parts.1 hk
              have g2 := kidT_of_mem ho.parts.1 hk'
              rw [← f1] at g1
              rw [← f2, g1] at g2
              exact Option.some.inj g2
            subst hkk
            -- the label is a beginning of r
            have hpre : L k.label <+: r := by
              have q1 : L k.label <+: r ++ a :: s := ⟨u, eu.symm⟩
              have q2 : L k.label <+: r ++ b :: t := ⟨u', eu'.symm⟩
              rcases Nat.lt_or_ge r.length (L k.label).length with hl | hl
              · exfalso
                have r1 : r <+: L k.label := List.prefix_of_prefix_length_le (List.prefix_append _ _) q1 (by omega)
                obtain ⟨v, hv⟩ := r1
                cases v with
                | nil => rw [List.append_nil] at hv; rw [hv] at hl; omega
                | cons c v =>
                  rw [← hv] at q1 q2
                  have q3 := (List.prefix_append_right_inj r).1 q1
                  have q4 := (List.prefix_append_right_inj r).1 q2
                  rw [List.cons_prefix_cons] at q3 q4
                  exact hab (q3.1.symm.trans q4.1)
              · exact List.prefix_of_prefix_length_le q1 (List.prefix_append _ _) hl
            obtain ⟨t', ht'⟩ := hpre
            subst ht'
            rw [nodeT_kid ho hk]
            by_cases htn : t' = []
            · subst htn; rw [nodeT_nil]; simp
            · have hlen : t'.length ≤ N := by
                have h2 : 0 < (L k.label).length := List.length_pos_iff.2 hpk
                rw [List.length_append] at h
                omega
              refine (ih k t' hlen htn (ho.parts.2.2.get k hk) (hb.parts.mem k hk).2).2 (.inr ⟨a, b, s, t, hab, ?_, ?_⟩)
              · rw [List.append_assoc, findT_kid ho hk] at h1; exact h1
              · rw [List.append_assoc, findT_kid ho hk] at h2; exact h2
/-- trees that hold the same keys have nodes at the same paths -/
theorem nodes_same {m n : Nd} (hm : Ok m) (hbm : Br m) (hn : Ok n) (hbn : Br n) (h : ∀ r, findT m r ≠ none ↔ findT n r ≠ none) (r : List UInt8) : nodeT m r ≠ none ↔ nodeT n r ≠ none := by
  by_cases hr : r = []
  · subst hr; rw [nodeT_nil, nodeT_nil]; simp
  · rw [node_iff _ m r (Nat.le_refl _) hr hm hbm, node_iff _ n r (Nat.le_refl _) hr hn hbn, h]
    unfold Parts
    simp only [h]
end Go.Proofs.Ytkaeglnnahecjaa.T
/- radix, plain: trees that hold the same values at the same keys look alike. -/
set_option linter.unusedVariables false
set_option linter.unusedSimpArgs false
namespace Go.Proofs.Ytkaeglnnahecjaa.T

mutual
def Sim : Nd → Nd → Prop
  | .mk _ label leaf kids _, b => label = b.label ∧ leaf.map Lf.val = b.leaf.map Lf.val ∧ Sims kids b.kids
def Sims : List Nd → List Nd → Prop
  | [], ms => ms = []
  | k :: ks, ms => ∃ m r, ms = m :: r ∧ Sim k m ∧ Sims ks r
end
theorem Sim.parts {a b : Nd} (h : Sim a b) : a.label = b.label ∧ a.leaf.map Lf.val = b.leaf.map Lf.val ∧ Sims a.kids b.kids := by
  cases a; unfold Sim at h; exact h
theorem Sims.get : ∀ {ks ms : List Nd}, Sims ks ms → ks.length = ms.length ∧ ∀ i (hi : i < ks.length) (hj : i < ms.length), Sim ks[i] ms[i]
  | [], ms, h => by unfold Sims at h; subst h; exact ⟨rfl, fun i hi => by simp at hi⟩
  | k :: ks, ms, h => by
    unfold Sims at h
    obtain ⟨m, r, rfl, h1, h2⟩ := h
    have ih := Sims.get h2
    refine ⟨by simp [ih.1], fun i hi hj => ?_⟩
    cases i with
    | zero => exact h1
    | succ i => exact ih.2 i (by simpa using hi) (by simpa using hj)
theorem kid_unique {n : Nd} (ho : Ok n) {k m : Nd} (hk : k ∈ n.kids) (hm : m ∈ n.kids) (h : fb k = fb m) : k = m := by
  have g1 := kidT_of_mem ho.parts.1 hk
  have g2 := kidT_of_mem ho.parts.1 hm
  rw [h, g2] at g1
  exact (Option.some.inj g1).symm
theorem fb_iff {n : Nd} (ho : Ok n) (hb : Br n) (x : UInt8) : x.toNat ∈ n.kids.map fb ↔ ∃ t, findT n (x :: t) ≠ none := by
  constructor
  · intro h
    obtain ⟨k, hk, e⟩ := List.mem_map.1 h
    obtain ⟨t, l, ht⟩ := some_kid n.kids ho.parts.2.2 hb.parts k hk
    rw [← findT_kid ho hk] at ht
    have hne := L_ne (ho.parts.2.1 k hk)
    cases e1 : L k.label with
    | nil => exact absurd e1 hne
    | cons a s =>
      rw [fb_hd, e1] at e
      have : a = x := UInt8.toNat_inj.1 e
      subst this
      rw [e1] at ht
      exact ⟨s ++ t, by rw [show a :: (s ++ t) = a :: s ++ t from rfl, ht]; simp⟩
  · rintro ⟨t, h⟩
    obtain ⟨l, hl⟩ := some_ne h
    rcases findT_of ho hl with ⟨e, _⟩ | ⟨k, hk, u, e, _⟩
    · simp at e
    · have hne := L_ne (ho.parts.2.1 k hk)
      refine List.mem_map.2 ⟨k, hk, ?_⟩
      rw [fb_hd, ← hd_append (y := u) hne, ← e]
      rfl
theorem val_none {m n : Nd} (h : ∀ r, (findT m r).map Lf.val = (findT n r).map Lf.val) (r : List UInt8) : findT m r ≠ none ↔ findT n r ≠ none := by
  have := h r
  cases e1 : findT m r <;> cases e2 : findT n r <;> rw [e1, e2] at this <;> simp at this ⊢
theorem kids_same {a b : Nd} (ha : Ok a) (hba : Br a) (hb : Ok b) (hbb : Br b) (h : ∀ r, findT a r ≠ none ↔ findT b r ≠ none) : a.kids.map fb = b.kids.map fb := by
  refine sorted_ext (lt := (· < ·)) (fun x => Nat.lt_irrefl x) (fun x y z => Nat.lt_trans) _ _ ha.parts.1 hb.parts.1 (fun x => ?_)
  have key : ∀ (n : Nd), x ∈ n.kids.map fb → x < 256 := fun n hx => by
    obtain ⟨k, _, e⟩ := List.mem_map.1 hx
    rw [← e]; exact fb_lt k
  constructor
  · intro hx
    have e : (UInt8.ofNat x).toNat = x := by rw [UInt8.toNat_ofNat']; have := key a hx; omega
    rw [← e] at hx ⊢
    rw [fb_iff ha hba] at hx
    rw [fb_iff hb hbb]
    obtain ⟨t, ht⟩ := hx
    exact ⟨t, (h _).1 ht⟩
  · intro hx
    have e : (UInt8.ofNat x).toNat = x := by rw [UInt8.toNat_ofNat']; have := key b hx; omega
    rw [← e] at hx ⊢
    rw [fb_iff hb hbb] at hx
    rw [fb_iff ha hba]
    obtain ⟨t, ht⟩ := hx
    exact ⟨t, (h _).2 ht⟩
theorem label_pre {a b : Nd} (ha : Ok a) (hba : Br a) (hb : Ok b) (hbb : Br b) (h : ∀ r, findT a r ≠ none ↔ findT b r ≠ none) {k m : Nd} (hk : k ∈ a.kids) (hm : m ∈ b.kids) (hf : fb k = fb m) : L m.label <+: L k.label := by
  have hn : nodeT a (L k.label) ≠ none := by
    have := nodeT_kid ha hk []
    rw [List.append_nil, nodeT_nil] at this
    rw [this]; simp
  obtain ⟨x, hx⟩ := some_ne ((nodes_same ha hba hb hbb h _).1 hn)
  have hne := L_ne (ha.parts.2.1 k hk)
  rcases nodeT_of hb hx with ⟨e, _⟩ | ⟨m', hm', t, e, _⟩
  · exact absurd e hne
  · have hne' := L_ne (hb.parts.2.1 m' hm')
    have : m' = m := kid_unique hb hm' hm (by rw [← hf, fb_hd, fb_hd, e, hd_append hne'])
    subst this
    exact ⟨t, e.symm⟩
theorem label_same {a b : Nd} (ha : Ok a) (hba : Br a) (hb : Ok b) (hbb : Br b) (h : ∀ r, findT a r ≠ none ↔ findT b r ≠ none) {k m : Nd} (hk : k ∈ a.kids) (hm : m ∈ b.kids) (hf : fb k = fb m) : k.label = m.label := by
  have h1 := label_pre ha hba hb hbb h hk hm hf
  have h2 := label_pre hb hbb ha hba (fun r => (h r).symm) hm hk hf.symm
  exact L_inj ((h2.eq_of_length (Nat.le_antisymm h2.length_le h1.length_le)))
theorem map_get_eq {α β : Type} {f : α → β} {l m : List α} (h : l.map f = m.map f) (i : Nat) (hi : i < l.length) (hj : i < m.length) : f l[i] = f m[i] := by
  have := congrArg (fun x => x[i]?) h
  simp only [List.getElem?_map] at this
  rw [List.getElem?_eq_getElem hi, List.getElem?_eq_getElem hj] at this
  simpa using this
mutual
theorem sim_of : ∀ (a b : Nd), Ok a → Br a → Ok b → Br b → a.label = b.label → (∀ r, (findT a r).map Lf.val = (findT b r).map Lf.val) → Sim a b
  | .mk ba la fa ka ma, b, ha, hba, hb, hbb, hl, h => by
    have hn := val_none h
    have hks := kids_same ha hba hb hbb hn
    have hlen : ka.length = b.kids.length := by have := congrArg List.length hks; simpa [Nd.kids] using this
    have hf : ∀ i (hi : i < ka.length) (hj : i < b.kids.length), fb ka[i] = fb b.kids[i] := fun i hi hj => map_get_eq hks i hi hj
    have hlab : ∀ i (hi : i < ka.length) (hj : i < b.kids.length), ka[i].label = b.kids[i].label := fun i hi hj =>
      label_same ha hba hb hbb hn (show ka[i] ∈ (Nd.mk ba la fa ka ma).kids from List.getElem_mem _) (List.getElem_mem _) (hf i hi hj)
    unfold Sim
    refine ⟨hl, ?_, sims_of ka b.kids hlen ha.parts.2.2 hba.parts hb.parts.2.2 hbb.parts hlab (fun i hi hj r => ?_)⟩
    · have := h []
      rw [findT_nil, findT_nil] at this
      exact this
    · have h1 := findT_kid ha (show ka[i] ∈ (Nd.mk ba la fa ka ma).kids from List.getElem_mem _) r
      have h2 := findT_kid hb (List.getElem_mem hj) r
      rw [← h1, ← h2, ← hlab i hi hj]
      exact h _
theorem sims_of : ∀ (ks ms : List Nd), ks.length = ms.length → Oks ks → Brs ks → Oks ms → Brs ms → (∀ i (hi : i < ks.length) (hj : i < ms.length), ks[i].label = ms[i].label) → (∀ i (hi : i < ks.length) (hj : i < ms.length) r, (findT ks[i] r).map Lf.val = (findT ms[i] r).map Lf.val) → Sims ks ms
  | [], ms, hl, _, _, _, _, _, _ => by unfold Sims; exact List.length_eq_zero_iff.1 hl.symm
  | k :: ks, [], hl, _, _, _, _, _, _ => by simp at hl
  | k :: ks, m :: ms, hl, h1, h2, h3, h4, h5, h6 => by
    unfold Oks at h1 h3
    unfold Brs at h2 h4
    unfold Sims
    refine ⟨m, ms, rfl, sim_of k m h1.1 h2.1.2 h3.1 h4.1.2 (h5 0 (by simp) (by simp)) (h6 0 (by simp) (by simp)), sims_of ks ms (by simpa using hl) h1.2 h2.2 h3.2 h4.2 (fun i hi hj => ?_) (fun i hi hj r => ?_)⟩
    · exact h5 (i + 1) (by simpa using hi) (by simpa using hj)
    · exact h6 (i + 1) (by simpa using hi) (by simpa using hj) r
end
mutual
def nsz : Nd → Nat
  | .mk _ _ _ kids _ => nszs kids + 1
def nszs : List Nd → Nat
  | [] => 0
  | n :: r => nsz n + nszs r
end
theorem nszs_mem : ∀ {ks : List Nd} {k : Nd}, k ∈ ks → nsz k ≤ nszs ks
  | n :: r, k, h => by
    unfold nszs
    rcases List.mem_cons.1 h with e | e
    · rw [e]; omega
    · have := nszs_mem e; omega
theorem nsz_kid {n k : Nd} (h : k ∈ n.kids) : nsz k < nsz n := by
  cases n with
  | mk b l f ks m =>
    have h1 : nsz (.mk b l f ks m) = nszs ks + 1 := by rw [nsz]
    have h2 : nsz k ≤ nszs ks := nszs_mem h
    omega
end Go.Proofs.Ytkaeglnnahecjaa.T
