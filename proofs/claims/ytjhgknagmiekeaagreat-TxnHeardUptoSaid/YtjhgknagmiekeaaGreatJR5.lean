/- joined: TP7 TP8 TP9 TR20 TR21 TR22 TR23 TR24 TR25 TP10 TP11 TR15 TP12 TR28 G5 G6 -/
import Derived.Test.YtjhgknagmiekeaaGreatJR4
import Derived.Sort.Walk0
import Derived.Laws.Concat
import Derived.Shelf.SlicesE.Delete
import Derived.Lib.OwnBridge
import Derived.Deep.RegionLaw
import Derived.Deep.RegionHeld3
set_option linter.unusedVariables false
set_option linter.unusedSimpArgs false
namespace Go.Proofs.YtjhgknagmiekeaaGreat.T
theorem blt_trans {x y z : List UInt8} (h : x < y) (k : y < z) : x < z := List.lt_trans h k
theorem blt_irrefl (x : List UInt8) : ¬ x < x := List.lt_irrefl x
theorem blt_total (x y : List UInt8) : x < y ∨ x = y ∨ y < x := by
  induction x generalizing y with
  | nil => cases y with
    | nil => exact .inr (.inl rfl)
    | cons b y => exact .inl (List.nil_lt_cons b y)
  | cons a x ih => cases y with
    | nil => exact .inr (.inr (List.nil_lt_cons a x))
    | cons b y =>
      simp only [List.cons_lt_cons_iff]
      by_cases h1 : a < b
      · exact .inl (.inl h1)
      · by_cases h2 : a = b
        · subst h2
          rcases ih y with h | h | h
          · exact .inl (.inr ⟨rfl, h⟩)
          · exact .inr (.inl (by rw [h]))
          · exact .inr (.inr (.inr ⟨rfl, h⟩))
        · refine .inr (.inr (.inl ?_))
          rw [UInt8.lt_iff_toNat_lt] at h1 ⊢
          have h3 : a.toNat ≠ b.toNat := fun e => h2 (UInt8.toNat_inj.1 e)
          omega
theorem blt_pre (p x y : List UInt8) : p ++ x < p ++ y ↔ x < y := by
  induction p with
  | nil => rfl
  | cons a p ih => simp only [List.cons_append, List.cons_lt_cons_iff, ih]; simp
theorem blt_ext (p r : List UInt8) (h : r ≠ []) : p < p ++ r := by
  cases r with
  | nil => exact absurd rfl h
  | cons b r =>
    have := (blt_pre p [] (b :: r)).2 (List.nil_lt_cons b r)
    rwa [List.append_nil] at this
theorem blt_hd {x y : List UInt8} (hx : x ≠ []) (hy : y ≠ []) (h : hd x < hd y) : x < y := by
  cases x with
  | nil => exact absurd rfl hx
  | cons a x => cases y with
    | nil => exact absurd rfl hy
    | cons b y =>
      rw [List.cons_lt_cons_iff]
      refine .inl ?_
      rw [UInt8.lt_iff_toNat_lt]
      exact h
theorem hd_append {x y : List UInt8} (hx : x ≠ []) : hd (x ++ y) = hd x := by
  cases x with
  | nil => exact absurd rfl hx
  | cons a x => rfl
theorem sorted_ext {α : Type} {lt : α → α → Prop} (irr : ∀ a, ¬ lt a a) (tr : ∀ a b c, lt a b → lt b c → lt a c) : ∀ (A B : List α), A.Pairwise lt → B.Pairwise lt → (∀ x, x ∈ A ↔ x ∈ B) → A = B
  | [], [], _, _, _ => rfl
  | [], b :: B, _, _, h => by have := (h b).2 (by simp); simp at this
  | a :: A, [], _, _, h => by have := (h a).1 (by simp); simp at this
  | a :: A, b :: B, hA, hB, h => by
    have hA2 := List.pairwise_cons.1 hA
    have hB2 := List.pairwise_cons.1 hB
    have e : a = b := by
      rcases List.mem_cons.1 ((h a).1 (by simp)) with e | e
      · exact e
      · rcases List.mem_cons.1 ((h b).2 (by simp)) with e2 | e2
        · exact e2.symm
        · exact absurd (tr _ _ _ (hA2.1 b e2) (hB2.1 a e)) (irr a)
    subst e
    rw [sorted_ext irr tr A B hA2.2 hB2.2 (fun x => ⟨fun hx => ?_, fun hx => ?_⟩)]
    · rcases List.mem_cons.1 ((h x).1 (by simp [hx])) with e | e
      · subst e; exact absurd (hA2.1 x hx) (irr x)
      · exact e
    · rcases List.mem_cons.1 ((h x).2 (by simp [hx])) with e | e
      · subst e; exact absurd (hB2.1 x hx) (irr x)
      · exact e
abbrev Ent := List UInt8 × Lf
mutual
def ents (p : List UInt8) : Nd → List Ent
  | .mk _ label leaf kids _ => (leaf.toList.map fun l => (p ++ L label, l)) ++ entss (p ++ L label) kids
def entss (p : List UInt8) : List Nd → List Ent
  | [] => []
  | n :: r => ents p n ++ entss p r
end
theorem ents_eq (p : List UInt8) (n : Nd) : ents p n = (n.leaf.toList.map fun l => (p ++ L n.label, l)) ++ entss (p ++ L n.label) n.kids := by
  cases n; rw [ents]; rfl
theorem mem_entss (p : List UInt8) (x : Ent) : ∀ ks : List Nd, x ∈ entss p ks ↔ ∃ k ∈ ks, x ∈ ents p k
  | [] => by rw [entss]; simp
  | n :: r => by
    rw [entss, List.mem_append, mem_entss p x r]
    constructor
    · rintro (h | ⟨k, hk, h⟩)
      · exact ⟨n, by simp, h⟩
      · exact ⟨k, by simp [hk], h⟩
    · rintro ⟨k, hk, h⟩
      rcases List.mem_cons.1 hk with e | e
      · subst e; exact .inl h
      · exact .inr ⟨k, e, h⟩
theorem kidT_of_mem : ∀ {ks : List Nd} {k : Nd}, (ks.map fb).Pairwise (· < ·) → k ∈ ks → kidT ks (fb k) = some k
  | n :: r, k, hp, hk => by
    have h2 := List.pairwise_cons.1 hp
    unfold kidT
    rcases List.mem_cons.1 hk with e | e
    · subst e; rw [List.find?_cons_of_pos (by simp)]
    · have := h2.1 (fb k) (List.mem_map_of_mem e)
      rw [List.find?_cons_of_neg (by simp; omega)]
      exact kidT_of_mem h2.2 e
theorem L_ne {s : ByteArray} (h : 0 < s.size) : L s ≠ [] := fun e => by have := L_len s; rw [e] at this; simp at this; omega
theorem findT_kid {n : Nd} (ho : Ok n) {k : Nd} (hk : k ∈ n.kids) (r : List UInt8) : findT n (L k.label ++ r) = findT k r := by
  have hpos := ho.parts.2.1 k hk
  have hne := L_ne hpos
  rw [findT_eq _ _ (by simp [hne]), hd_append hne]
  have hf : hd (L k.label) = fb k := (fb_hd k).symm
  rw [hf, kidT_of_mem ho.parts.1 hk]
  simp only [Option.bind_some, below]
  rw [if_pos ⟨hpos, List.prefix_append _ _⟩]
  congr 1
  rw [← L_len, List.drop_left]
theorem findT_of {n : Nd} (ho : Ok n) {r : List UInt8} {l : Lf} (h : findT n r = some l) : (r = [] ∧ n.leaf = some l) ∨ ∃ k ∈ n.kids, ∃ t, r = L k.label ++ t ∧ findT k t = some l := by
  by_cases hr : r = []
  · subst hr; rw [findT_nil] at h; exact .inl ⟨rfl, h⟩
  · rw [findT_eq _ _ hr] at h
    cases e : kidT n.kids (hd r) with
    | none => rw [e] at h; cases h
    | some k =>
      rw [e] at h
      simp only [Option.bind_some, below] at h
      split at h
      · rename_i hp
        obtain ⟨t, ht⟩ := hp.2
        refine .inr ⟨k, (kidT_some e).1, t, ht.symm, ?_⟩
        rw [← ht, ← L_len, List.drop_left] at h
        exact h
      · cases h
mutual
theorem mem_ents (q : List UInt8) (l : Lf) : ∀ (n : Nd) (p : List UInt8), Ok n → ((q, l) ∈ ents p n ↔ ∃ r, q = p ++ L n.label ++ r ∧ findT n r = some l)
  | .mk b label leaf kids mark, p, ho => by
    have hk := mem_kids q l kids (p ++ L label) ho.parts.2.2
    rw [ents_eq, List.mem_append, mem_entss]
    constructor
    · rintro (h | ⟨k, hkm, h⟩)
      · obtain ⟨l', hl', e⟩ := List.mem_map.1 h
        cases e
        refine ⟨[], by simp, ?_⟩
        rw [findT_nil]
        exact Option.mem_toList.1 hl'
      · obtain ⟨r, e, hr⟩ := (hk k hkm).1 h
        refine ⟨L k.label ++ r, by rw [e]; simp [Nd.label], ?_⟩
        rw [findT_kid ho (show k ∈ (Nd.mk b label leaf kids mark).kids from hkm)]
        exact hr
    · rintro ⟨r, e, hr⟩
      rcases findT_of ho hr with ⟨e1, e2⟩ | ⟨k, hkm, t, e1, e2⟩
      · subst e1
        refine .inl (List.mem_map.2 ⟨l, Option.mem_toList.2 e2, ?_⟩)
        rw [e, List.append_nil]
      · exact .inr ⟨k, hkm, (hk k hkm).2 ⟨t, by rw [e, e1]; simp [Nd.label], e2⟩⟩
theorem mem_kids (q : List UInt8) (l : Lf) : ∀ (ks : List Nd) (p : List UInt8), Oks ks → ∀ k ∈ ks, ((q, l) ∈ ents p k ↔ ∃ r, q = p ++ L k.label ++ r ∧ findT k r = some l)
  | [], _, _ => by simp
  | n :: r, p, ho => by
    intro k hk
    unfold Oks at ho
    rcases List.mem_cons.1 hk with e | e
    · rw [e]; exact mem_ents q l n p ho.1
    · exact mem_kids q l r p ho.2 k e
end
mutual
theorem ents_rise : ∀ (n : Nd) (p : List UInt8), Ok n → (ents p n).Pairwise (fun a b => a.1 < b.1)
  | .mk b label leaf kids mark, p, ho => by
    rw [ents_eq, List.pairwise_append]
    refine ⟨?_, entss_rise kids (p ++ L label) ho.parts.2.2 ho.parts.1 ho.parts.2.1, ?_⟩
    · cases leaf <;> simp [Nd.leaf]
    · intro a ha c hc
      obtain ⟨l', hl', e⟩ := List.mem_map.1 ha
      obtain ⟨k, hkm, hck⟩ := (mem_entss _ _ _).1 hc
      obtain ⟨r, er, _⟩ := (mem_kids c.1 c.2 kids (p ++ L label) ho.parts.2.2 k hkm).1 hck
      rw [← e, er]
      show p ++ L label < _
      rw [List.append_assoc (p ++ L label)]
      exact blt_ext _ _ (by have := L_ne (ho.parts.2.1 k hkm); simp [this])
theorem entss_rise : ∀ (ks : List Nd) (p : List UInt8), Oks ks → (ks.map fb).Pairwise (· < ·) → (∀ k ∈ ks, 0 < k.label.size) → (entss p ks).Pairwise (fun a b => a.1 < b.1)
  | [], _, _, _, _ => by rw [entss]; exact List.Pairwise.nil
  | n :: r, p, ho, hp, hl => by
    unfold Oks at ho
    have hp2 := List.pairwise_cons.1 hp
    rw [entss, List.pairwise_append]
    refine ⟨ents_rise n p ho.1, entss_rise r p ho.2 hp2.2 (fun k hk => hl k (by simp [hk])), ?_⟩
    intro a ha c hc
    obtain ⟨k, hkm, hck⟩ := (mem_entss _ _ _).1 hc
    obtain ⟨s, es, _⟩ := (mem_ents a.1 a.2 n p ho.1).1 ha
    obtain ⟨t, et, _⟩ := (mem_kids c.1 c.2 r p ho.2 k hkm).1 hck
    rw [es, et, List.append_assoc, List.append_assoc, blt_pre]
    have h1 := L_ne (hl n (by simp))
    have h2 := L_ne (hl k (by simp [hkm]))
    refine blt_hd (by simp [h1]) (by simp [h2]) ?_
    rw [hd_append h1, hd_append h2, ← fb_hd, ← fb_hd]
    exact hp2.1 (fb k) (List.mem_map_of_mem hkm)
end
abbrev All (root : Nd) : List Ent := ents [] root
theorem mem_all {root : Nd} (h : Good root) (q : List UInt8) (l : Lf) : (q, l) ∈ All root ↔ findT root q = some l := by
  rw [mem_ents q l root [] h.ok]
  have e : L root.label = [] := List.length_eq_zero_iff.1 (by rw [L_len]; exact h.top)
  rw [e]
  constructor
  · rintro ⟨r, e, hr⟩; rw [e]; exact hr
  · intro hr; exact ⟨q, rfl, hr⟩
theorem all_rise {root : Nd} (h : Good root) : (All root).Pairwise (fun a b => a.1 < b.1) := ents_rise root [] h.ok
theorem rise_ext {A B : List Ent} (hA : A.Pairwise (fun a b => a.1 < b.1)) (hB : B.Pairwise (fun a b => a.1 < b.1)) (h : ∀ x, x ∈ A ↔ x ∈ B) : A = B :=
  sorted_ext (lt := fun a b : Ent => a.1 < b.1) (fun a => blt_irrefl _) (fun a b c => blt_trans) A B hA hB h
theorem all_ins {root : Nd} (h : Good root) (k : ByteArray) (l : Lf) (ns : Sup) (hg : Good (insN root k l ns)) :
    All (insN root k l ns) = (All root).filter (fun e => decide (e.1 < L k)) ++ (L k, l) :: (All root).filter (fun e => decide (L k < e.1)) := by
  refine rise_ext (all_rise hg) ?_ (fun x => ?_)
  · have hr := all_rise h
    rw [List.pairwise_append, List.pairwise_cons]
    refine ⟨hr.filter _, ⟨?_, hr.filter _⟩, ?_⟩
    · intro a ha; exact of_decide_eq_true (List.mem_filter.1 ha).2
    · intro a ha c hc
      have h1 : a.1 < L k := of_decide_eq_true (List.mem_filter.1 ha).2
      rcases List.mem_cons.1 hc with e | e
      · rw [e]; exact h1
      · have h2 : L k < c.1 := of_decide_eq_true (List.mem_filter.1 e).2
        exact blt_trans h1 h2
  · obtain ⟨q, l'⟩ := x
    rw [mem_all hg, find_ins k.size k (Nat.le_refl _) root h.ok l ns q, List.mem_append, List.mem_cons, List.mem_filter, List.mem_filter, mem_all h]
    simp only [decide_eq_true_eq]
    by_cases e : q = L k
    · rw [if_pos e]
      subst e
      constructor
      · intro e; cases e; exact .inr (.inl rfl)
      · rintro (⟨_, h⟩ | h | ⟨_, h⟩)
        · exact absurd h (blt_irrefl _)
        · cases h; rfl
        · exact absurd h (blt_irrefl _)
    · rw [if_neg e]
      constructor
      · intro h1
        rcases blt_total q (L k) with h2 | h2 | h2
        · exact .inl ⟨h1, h2⟩
        · exact absurd h2 e
        · exact .inr (.inr ⟨h1, h2⟩)
      · rintro (⟨h, _⟩ | h | ⟨h, _⟩)
        · exact h
        · exact absurd (congrArg Prod.fst h) e
        · exact h
end Go.Proofs.YtjhgknagmiekeaaGreat.T
set_option linter.unusedVariables false
set_option linter.unusedSimpArgs false
namespace Go.Proofs.YtjhgknagmiekeaaGreat.T
def joinN (n k : Nd) (b : Nat) : Nd := .mk b (n.label ++ k.label) k.leaf k.kids k.mark
def shapedN (n : Nd) (b : Nat) : Option Nd :=
  if n.leaf.isSome = true ∨ 1 < n.kids.length then some n
  else match n.kids with
    | [] => none
    | k :: _ => some (joinN n k b)
def putKid (ks : List Nd) (i : Nat) : Option Nd → List Nd
  | some s => ks.set i s
  | none => ks.eraseIdx i
def delN (n : Nd) (rest : ByteArray) (ns : Sup) : Option (Nd × Lf) :=
  if h0 : rest.size = 0 then n.leaf.map fun l => (.mk (ns 0).1 n.label none n.kids (ns 0).2, l)
  else match downN n rest with
    | none => none
    | some k => if h : 0 < k.label.size then
        (delN k (rest.extract k.label.size rest.size) (fun j => ns (j + 2))).map fun x =>
          (.mk (ns 0).1 n.label n.leaf (putKid n.kids (pos (n.kids.map fb) (fbS rest)) (shapedN x.1 (ns 1).1)) (ns 0).2, x.2)
      else none
termination_by rest.size
decreasing_by
  simp only [ByteArray.size_extract]
  omega
theorem L_append (a b : ByteArray) : L (a ++ b) = L a ++ L b := by simp [L, ByteArray.data_append]
theorem kidT_erase (ks : List Nd) (i : Nat) (x : Nat) (hi : i < ks.length) (hp : (ks.map fb).Pairwise (· < ·)) : kidT (ks.eraseIdx i) x = if fb ks[i] = x then none else kidT ks x := by
  have e2 : ks = ks.take i ++ ks[i] :: ks.drop (i + 1) := by
    rw [← List.drop_eq_getElem_cons hi, List.take_append_drop]
  have hlo : ∀ k ∈ ks.take i, fb k < fb ks[i] := fun k hk => by
    obtain ⟨j, hj, ej⟩ := List.getElem_of_mem hk
    rw [List.length_take] at hj
    have h2 := List.pairwise_iff_getElem.1 hp j i (by rw [List.length_map]; omega) (by rw [List.length_map]; exact hi) (by omega)
    rw [List.getElem_map, List.getElem_map] at h2
    rw [List.getElem_take] at ej
    rw [← ej]
    exact h2
  have hhi : ∀ k ∈ ks.drop (i + 1), fb ks[i] < fb k := fun k hk => by
    obtain ⟨j, hj, ej⟩ := List.getElem_of_mem hk
    rw [List.length_drop] at hj
    have h2 := List.pairwise_iff_getElem.1 hp i (i + 1 + j) (by rw [List.length_map]; exact hi) (by rw [List.length_map]; omega) (by omega)
    rw [List.getElem_map, List.getElem_map] at h2
    rw [List.getElem_drop] at ej
    rw [← ej]
    exact h2
  unfold kidT
  rw [List.eraseIdx_eq_take_drop_succ, List.find?_append]
  by_cases e : fb ks[i] = x
  · rw [if_pos e]
    have h1 : (ks.take i).find? (fun k => fb k == x) = none := by
      rw [List.find?_eq_none]
      intro k hk
      have := hlo k hk
      simp; omega
    have h2 : (ks.drop (i + 1)).find? (fun k => fb k == x) = none := by
      rw [List.find?_eq_none]
      intro k hk
      have := hhi k hk
      simp; omega
    rw [h1, h2]; rfl
  · rw [if_neg e]
    conv => rhs; rw [e2]
    rw [List.find?_append, List.find?_cons_of_neg (by simp [e])]
theorem prefix_split {a b r : List UInt8} : (a ++ b) <+: r ↔ a <+: r ∧ b <+: r.drop a.length := by
  constructor
  · rintro ⟨t, ht⟩
    rw [← ht, List.append_assoc]
    exact ⟨List.prefix_append _ _, by rw [List.drop_left]; exact List.prefix_append _ _⟩
  · rintro ⟨⟨s, hs⟩, ⟨t, ht⟩⟩
    rw [← hs, List.drop_left] at ht
    exact ⟨t, by rw [List.append_assoc, ht, hs]⟩
theorem findT_only {n k : Nd} (hl : n.leaf = none) (hk : n.kids = [k]) (r : List UInt8) (hpos : 0 < k.label.size) : findT n r = below r k := by
  by_cases hr : r = []
  · subst hr
    rw [findT_nil, hl]
    unfold below
    rw [if_neg]
    rintro ⟨_, h⟩
    exact L_ne hpos (List.prefix_nil.1 h)
  · rw [findT_eq _ _ hr, hk]
    unfold kidT
    by_cases e : fb k = hd r
    · rw [List.find?_cons_of_pos (by simp [e])]; rfl
    · rw [List.find?_cons_of_neg (by simp [e])]
      simp only [List.find?_nil, Option.bind_none]
      unfold below
      rw [if_neg]
      rintro ⟨_, t, ht⟩
      apply e
      rw [fb_hd, ← ht, hd_append (L_ne hpos)]
theorem findT_join (n k : Nd) (b : Nat) (r : List UInt8) : findT (joinN n k b) r = findT k r := by
  by_cases hr : r = []
  · subst hr; rw [findT_nil, findT_nil]; rfl
  · rw [findT_eq _ _ hr, findT_eq _ _ hr]; rfl
theorem shaped_cases (n : Nd) (b : Nat) : (shapedN n b = some n ∧ (n.leaf.isSome = true ∨ 1 < n.kids.length)) ∨ (n.leaf = none ∧ n.kids = [] ∧ shapedN n b = none) ∨ ∃ k, n.leaf = none ∧ n.kids = [k] ∧ shapedN n b = some (joinN n k b) := by
  unfold shapedN
  by_cases h : n.leaf.isSome = true ∨ 1 < n.kids.length
  · rw [if_pos h]; exact .inl ⟨rfl, h⟩
  · rw [if_neg h]
    have h1 : n.leaf = none := by cases e : n.leaf with | none => rfl | some l => exact absurd (.inl (by rw [e]; rfl)) h
    cases e : n.kids with
    | nil => exact .inr (.inl ⟨h1, rfl, rfl⟩)
    | cons k ks =>
      cases ks with
      | nil => exact .inr (.inr ⟨k, h1, rfl, rfl⟩)
      | cons k2 ks => exact absurd (.inr (by rw [e]; simp)) h
theorem shaped_some {n s : Nd} {b : Nat} (ho : Ok n) (hpos : 0 < n.label.size) (h : shapedN n b = some s) : fb s = fb n ∧ 0 < s.label.size ∧ Ok s ∧ ∀ r, below r s = below r n := by
  rcases shaped_cases n b with ⟨e, _⟩ | ⟨_, _, e⟩ | ⟨k, hl, hk, e⟩
  · rw [e] at h; cases h; exact ⟨rfl, hpos, ho, fun _ => rfl⟩
  · rw [e] at h; cases h
  · rw [e] at h; cases h
    have hkm : k ∈ n.kids := by rw [hk]; simp
    have hkp := ho.parts.2.1 k hkm
    have hok := ho.parts.2.2.get k hkm
    have hsz : (n.label ++ k.label).size = n.label.size + k.label.size := by rw [ByteArray.size_append]
    refine ⟨?_, by show 0 < (n.label ++ k.label).size; omega, Ok.mk' hok.parts.1 hok.parts.2.1 (fun x hx => hok.parts.2.2.get x hx), fun r => ?_⟩
    · rw [fb_hd, fb_hd]
      show hd (L (n.label ++ k.label)) = _
      rw [L_append, hd_append (L_ne hpos)]
    · unfold below
      have e1 : (joinN n k b).label = n.label ++ k.label := rfl
      rw [e1, L_append, hsz]
      have e2 : r.drop (n.label.size + k.label.size) = (r.drop n.label.size).drop k.label.size := by rw [List.drop_drop]
      rw [e2]
      by_cases h1 : L n.label <+: r
      · rw [if_pos (show 0 < n.label.size ∧ L n.label <+: r from ⟨hpos, h1⟩), findT_only hl hk _ hkp]
        unfold below
        have h2 : L n.label ++ L k.label <+: r ↔ L k.label <+: r.drop n.label.size := by
          rw [prefix_split, L_len]
          exact ⟨fun h => h.2, fun h => ⟨h1, h⟩⟩
        by_cases h3 : L k.label <+: r.drop n.label.size
        · rw [if_pos ⟨by omega, h2.2 h3⟩, if_pos ⟨hkp, h3⟩, findT_join]
        · rw [if_neg (fun h => h3 (h2.1 h.2)), if_neg (fun h => h3 h.2)]
      · rw [if_neg (fun h => h1 (prefix_split.1 h.2).1), if_neg (fun h => h1 h.2)]
theorem shaped_none {n : Nd} {b : Nat} (h : shapedN n b = none) (r : List UInt8) : findT n r = none := by
  rcases shaped_cases n b with ⟨e, _⟩ | ⟨hl, hk, _⟩ | ⟨k, _, _, e⟩
  · rw [e] at h; cases h
  · by_cases hr : r = []
    · subst hr; rw [findT_nil, hl]
    · rw [findT_eq _ _ hr, hk]; rfl
  · rw [e] at h; cases h
theorem fb_label {a b : Nd} (h : a.label = b.label) : fb a = fb b := by rw [fb_hd, fb_hd, h]
theorem del_find : ∀ (N : Nat) (rest : ByteArray), rest.size ≤ N → ∀ n, Ok n → ∀ ns : Sup,
    (findT n (L rest) = none → delN n rest ns = none) ∧ ∀ l, findT n (L rest) = some l → ∃ m, delN n rest ns = some (m, l) ∧ m.label = n.label ∧ Ok m ∧ ∀ r, findT m r = if r = L rest then none else findT n r := by
  intro N
  induction N with
  | zero =>
    intro rest hN n ho ns
    have e : L rest = [] := List.length_eq_zero_iff.1 (by rw [L_len]; omega)
    rw [delN, dif_pos (by omega), e, findT_nil]
    refine ⟨fun h => by rw [h]; rfl, fun l h => ⟨.mk (ns 0).1 n.label none n.kids (ns 0).2, by rw [h]; rfl, rfl, Ok.mk' ho.parts.1 ho.parts.2.1 (fun x hx => ho.parts.2.2.get x hx), fun r => ?_⟩⟩
    by_cases hr : r = []
    · rw [if_pos hr, hr, findT_nil]; rfl
    · rw [if_neg hr, findT_eq _ _ hr, findT_eq _ _ hr]; rfl
  | succ N ih =>
    intro rest hN n ho ns
    by_cases h0 : rest.size = 0
    · have e : L rest = [] := List.length_eq_zero_iff.1 (by rw [L_len]; omega)
      rw [delN, dif_pos h0, e, findT_nil]
      refine ⟨fun h => by rw [h]; rfl, fun l h => ⟨.mk (ns 0).1 n.label none n.kids (ns 0).2, by rw [h]; rfl, rfl, Ok.mk' ho.parts.1 ho.parts.2.1 (fun x hx => ho.parts.2.2.get x hx), fun r => ?_⟩⟩
      by_cases hr : r = []
      · rw [if_pos hr, hr, findT_nil]; rfl
      · rw [if_neg hr, findT_eq _ _ hr, findT_eq _ _ hr]; rfl
    · have hne : L rest ≠ [] := fun e => h0 (by rw [← L_len, e]; rfl)
      have hq := kidN_eq n ho rest
      have hdn := downN_eq n ho rest h0
      rw [delN, dif_neg h0, findT_eq _ _ hne]
      cases e : kidT n.kids (hd (L rest)) with
      | none =>
        rw [e] at hdn
        have hdn' : downN n rest = none := hdn
        rw [hdn']
        exact ⟨fun _ => rfl, fun l h => by cases h⟩
      | some k =>
        rw [e] at hdn hq
        simp only [Option.bind_some] at hdn ⊢
        obtain ⟨hh, hlt, ek⟩ := kidN_some hq
        have hkm : k ∈ n.kids := (kidT_some e).1
        have hfk := (kidT_some e).2
        have hpos := ho.parts.2.1 k hkm
        by_cases hp : L k.label <+: L rest
        · rw [if_pos hp] at hdn
          rw [hdn]
          unfold below
          rw [if_pos ⟨hpos, hp⟩]
          simp only []
          rw [dif_pos hpos]
          have hI := ih (rest.extract k.label.size rest.size) (by simp only [ByteArray.size_extract]; omega) k (ho.parts.2.2.get k hkm) (fun j => ns (j + 2))
          rw [L_tail] at hI
          refine ⟨fun h => by rw [hI.1 h]; rfl, fun l h => ?_⟩
          obtain ⟨low, h1, h2, h3, h4⟩ := hI.2 l h
          rw [h1]
          refine ⟨_, rfl, rfl, ?_, fun r => ?_⟩
          · -- in order
            have hlow : 0 < low.label.size := by rw [h2]; exact hpos
            cases hs : shapedN low (ns 1).1 with
            | none =>
              refine Ok.mk' ?_ (fun x hx => ho.parts.2.1 x (List.mem_of_mem_eraseIdx hx)) (fun x hx => ho.parts.2.2.get x (List.mem_of_mem_eraseIdx hx))
              exact ho.parts.1.sublist ((List.eraseIdx_sublist _ _).map fb)
            | some s =>
              obtain ⟨s1, s2, s3, s4⟩ := shaped_some h3 hlow hs
              refine Ok.mk' ?_ (fun x hx => ?_) (fun x hx => ?_)
              · show ((n.kids.set _ s).map fb).Pairwise (· < ·)
                rw [map_set_same _ _ _ hlt (by rw [s1, fb_label h2, ek])]; exact ho.parts.1
              · rcases List.mem_or_eq_of_mem_set hx with e | e
                · exact ho.parts.2.1 x e
                · rw [e]; exact s2
              · rcases List.mem_or_eq_of_mem_set hx with e | e
                · exact ho.parts.2.2.get x e
                · rw [e]; exact s3
          · -- what it holds
            by_cases hr : r = []
            · rw [if_neg (fun e => hne (by rw [← e, hr])), hr, findT_nil, findT_nil]; rfl
            · have hlow : 0 < low.label.size := by rw [h2]; exact hpos
              have hbl : below r low = if r = L rest then none else below r k := by
                unfold below
                rw [h2]
                by_cases hpr : 0 < k.label.size ∧ L k.label <+: r
                · rw [if_pos hpr, if_pos hpr, h4]
                  have hiff : r.drop k.label.size = (L rest).drop k.label.size ↔ r = L rest := by
                    obtain ⟨a, ha⟩ := hpr.2
                    obtain ⟨c, hc⟩ := hp
                    have hl : (L k.label).length = k.label.size := L_len _
                    rw [← ha, ← hc, ← hl, List.drop_left, List.drop_left]
                    exact ⟨fun e => by rw [e], fun e => List.append_cancel_left e⟩
                  by_cases e2 : r = L rest
                  · rw [if_pos e2, if_pos (hiff.2 e2)]
                  · rw [if_neg e2, if_neg (fun h => e2 (hiff.1 h))]
                · rw [if_neg hpr, if_neg hpr]; split <;> rfl
              rw [findT_eq _ _ hr, findT_eq n _ hr]
              show (kidT (putKid n.kids _ _) (hd r)).bind (below r) = _
              by_cases hx : fb k = hd r
              · have hkr : kidT n.kids (hd r) = some k := by rw [← hx, hfk]; exact e
                rw [hkr]
                simp only [Option.bind_some]
                cases hs : shapedN low (ns 1).1 with
                | none =>
                  show (kidT (n.kids.eraseIdx _) (hd r)).bind (below r) = _
                  rw [kidT_erase n.kids _ _ hlt ho.parts.1, ek, if_pos hx]
                  have hb0 : below r low = none := by unfold below; split; exact shaped_none hs _; rfl
                  rw [hb0] at hbl
                  exact hbl
                | some s =>
                  obtain ⟨s1, s2, s3, s4⟩ := shaped_some h3 hlow hs
                  show (kidT (n.kids.set _ s) (hd r)).bind (below r) = _
                  rw [kidT_set n.kids _ s (hd r) hlt (by rw [s1, fb_label h2, ek]) ho.parts.1, if_pos (by rw [s1, fb_label h2]; exact hx)]
                  simp only [Option.bind_some]
                  rw [s4, hbl]
              · have hne2 : r ≠ L rest := fun e => hx (by rw [e]; exact hfk)
                rw [if_neg hne2]
                cases hs : shapedN low (ns 1).1 with
                | none =>
                  show (kidT (n.kids.eraseIdx _) (hd r)).bind (below r) = _
                  rw [kidT_erase n.kids _ _ hlt ho.parts.1, ek, if_neg hx]
                | some s =>
                  obtain ⟨s1, s2, s3, s4⟩ := shaped_some h3 hlow hs
                  show (kidT (n.kids.set _ s) (hd r)).bind (below r) = _
                  rw [kidT_set n.kids _ s (hd r) hlt (by rw [s1, fb_label h2, ek]) ho.parts.1, if_neg (by rw [s1, fb_label h2]; exact hx)]
        · rw [if_neg hp] at hdn
          rw [hdn]
          unfold below
          rw [if_neg (fun h => hp h.2)]
          exact ⟨fun _ => rfl, fun l h => by cases h⟩
end Go.Proofs.YtjhgknagmiekeaaGreat.T
set_option linter.unusedVariables false
set_option linter.unusedSimpArgs false
namespace Go.Proofs.YtjhgknagmiekeaaGreat.T
mutual
/-- every way down from n has at most B letters -/
def Fits : Nd → Nat → Prop
  | .mk _ label _ kids _, B => label.size ≤ B ∧ Fitss kids (B - label.size)
def Fitss : List Nd → Nat → Prop
  | [], _ => True
  | n :: r, B => Fits n B ∧ Fitss r B
end
theorem Fits.parts {n : Nd} {B : Nat} (h : Fits n B) : n.label.size ≤ B ∧ Fitss n.kids (B - n.label.size) := by
  cases n; unfold Fits at h; exact h
theorem Fits.mk' {b : Nat} {label : ByteArray} {leaf : Option Lf} {kids : List Nd} {m : Value} {B : Nat} (h : label.size ≤ B) (hk : Fitss kids (B - label.size)) : Fits (.mk b label leaf kids m) B := by
  unfold Fits; exact ⟨h, hk⟩
theorem Fitss.mem {B : Nat} : ∀ {ks : List Nd}, Fitss ks B → ∀ k ∈ ks, Fits k B
  | n :: r, h, k, hk => by
    unfold Fitss at h
    rcases List.mem_cons.1 hk with e | e
    · rw [e]; exact h.1
    · exact Fitss.mem h.2 k e
theorem Fitss.of {B : Nat} : ∀ {ks : List Nd}, (∀ k ∈ ks, Fits k B) → Fitss ks B
  | [], _ => by unfold Fitss; trivial
  | n :: r, h => by unfold Fitss; exact ⟨h n (by simp), Fitss.of (fun k hk => h k (by simp [hk]))⟩
mutual
theorem Fits.mono {B B' : Nat} (hb : B ≤ B') : ∀ n : Nd, Fits n B → Fits n B'
  | .mk b label leaf kids mark, h => by
    have h2 := h.parts
    exact Fits.mk' (Nat.le_trans h2.1 hb) (Fitss.mono (Nat.sub_le_sub_right hb _) kids h2.2)
theorem Fitss.mono {B B' : Nat} (hb : B ≤ B') : ∀ ks : List Nd, Fitss ks B → Fitss ks B'
  | [], _ => by unfold Fitss; trivial
  | n :: r, h => by unfold Fitss at h ⊢; exact ⟨Fits.mono hb n h.1, Fitss.mono hb r h.2⟩
end
mutual
theorem Fits.sm {B : Nat} (hb : B < 4000000000000) : ∀ n : Nd, Fits n B → Sm n
  | .mk b label leaf kids mark, h => by
    have h2 := h.parts
    have h3 : label.size ≤ B := h2.1
    unfold Sm
    exact ⟨by omega, Fitss.sm (B := B - label.size) (by omega) kids h2.2⟩
theorem Fitss.sm {B : Nat} (hb : B < 4000000000000) : ∀ ks : List Nd, Fitss ks B → Sms ks
  | [], _ => by unfold Sms; trivial
  | n :: r, h => by unfold Fitss at h; unfold Sms; exact ⟨Fits.sm hb n h.1, Fitss.sm hb r h.2⟩
end
theorem fits_tip (s : ByteArray) (l : Lf) (a : Nat × Value) (B : Nat) (h : s.size ≤ B) : Fits (tipN s l a) B := Fits.mk' h (by unfold Fitss; trivial)
theorem fits_low (k : Nd) (p b B : Nat) (hp : p ≤ k.label.size) (h : Fits k B) : Fits (lowN k p b) (B - p) := by
  have h2 := h.parts
  have e : (k.label.extract p k.label.size).size = k.label.size - p := by simp only [ByteArray.size_extract]; omega
  refine Fits.mk' (by rw [e]; omega) ?_
  rw [e]
  have e2 : B - p - (k.label.size - p) = B - k.label.size := by omega
  rw [e2]
  exact h2.2
theorem fits_ins : ∀ (N : Nat) (rest : ByteArray), rest.size ≤ N → ∀ (n : Nd) (B : Nat), n.label.size + rest.size ≤ B → Fits n B → ∀ (l : Lf) (ns : Sup), Fits (insN n rest l ns) B := by
  intro N
  induction N with
  | zero =>
    intro rest hN n B hb hf l ns
    rw [insN, dif_pos (by omega)]
    exact Fits.mk' hf.parts.1 hf.parts.2
  | succ N ih =>
    intro rest hN n B hb hf l ns
    rw [insN]
    split
    · exact Fits.mk' hf.parts.1 hf.parts.2
    · split
      · refine Fits.mk' hf.parts.1 (Fitss.of fun k hk => ?_)
        rcases mem_insAt hk with e | e
        · rw [e]; exact fits_tip _ _ _ _ (by omega)
        · exact hf.parts.2.mem k e
      · rename_i k e
        obtain ⟨hh, hlt, ek⟩ := kidN_some e
        have hkm : k ∈ n.kids := by rw [← ek]; exact List.getElem_mem _
        have hfk := hf.parts.2.mem k hkm
        have hle := comB_le k.label rest
        split
        · rename_i hp
          refine Fits.mk' hf.parts.1 (Fitss.of fun k' hk' => ?_)
          rcases List.mem_or_eq_of_mem_set hk' with e | e
          · exact hf.parts.2.mem k' e
          · rw [e]
            refine ih _ (by simp only [ByteArray.size_extract]; omega) k _ ?_ hfk l _
            simp only [ByteArray.size_extract]
            omega
        · refine Fits.mk' hf.parts.1 (Fitss.of fun k' hk' => ?_)
          rcases List.mem_or_eq_of_mem_set hk' with e | e
          · exact hf.parts.2.mem k' e
          · rw [e]
            have hlow := fits_low k (comB k.label rest) (ns 2).1 _ hle.1 hfk
            have es : (rest.extract 0 (comB k.label rest)).size = comB k.label rest := by simp only [ByteArray.size_extract]; omega
            unfold splitN
            split
            · refine Fits.mk' (by rw [es]; omega) (Fitss.of fun k2 hk2 => ?_)
              rw [List.mem_singleton] at hk2
              rw [hk2, es]; exact hlow
            · refine Fits.mk' (by rw [es]; omega) (Fitss.of fun k2 hk2 => ?_)
              rw [es]
              rcases mem_insAt hk2 with e | e
              · rw [e]; exact fits_tip _ _ _ _ (by simp only [ByteArray.size_extract]; omega)
              · rw [List.mem_singleton] at e; rw [e]; exact hlow
theorem delN_some {n m : Nd} {rest : ByteArray} {ns : Sup} {l : Lf} (h : delN n rest ns = some (m, l)) :
    (rest.size = 0 ∧ n.leaf = some l ∧ m = .mk (ns 0).1 n.label none n.kids (ns 0).2) ∨
    (rest.size ≠ 0 ∧ ∃ k low, downN n rest = some k ∧ 0 < k.label.size ∧ delN k (rest.extract k.label.size rest.size) (fun j => ns (j + 2)) = some (low, l) ∧
      m = .mk (ns 0).1 n.label n.leaf (putKid n.kids (pos (n.kids.map fb) (fbS rest)) (shapedN low (ns 1).1)) (ns 0).2) := by
  rw [delN] at h
  by_cases h0 : rest.size = 0
  · rw [dif_pos h0] at h
    cases e : n.leaf with
    | none => rw [e] at h; cases h
    | some l' => rw [e] at h; cases h; exact .inl ⟨h0, rfl, rfl⟩
  · rw [dif_neg h0] at h
    cases e : downN n rest with
    | none => rw [e] at h; cases h
    | some k =>
      rw [e] at h
      simp only [] at h
      by_cases hp : 0 < k.label.size
      · rw [dif_pos hp] at h
        cases e2 : delN k (rest.extract k.label.size rest.size) (fun j => ns (j + 2)) with
        | none => rw [e2] at h; cases h
        | some x => rw [e2] at h; cases h; exact .inr ⟨h0, k, x.1, rfl, hp, e2, rfl⟩
      · rw [dif_neg hp] at h; cases h
theorem mem_putKid {ks : List Nd} {i : Nat} {o : Option Nd} {x : Nd} (h : x ∈ putKid ks i o) : x ∈ ks ∨ o = some x := by
  cases o with
  | none => exact .inl (List.mem_of_mem_eraseIdx h)
  | some s =>
    rcases List.mem_or_eq_of_mem_set h with e | e
    · exact .inl e
    · exact .inr (by rw [e])
theorem fits_shaped {n s : Nd} {b B : Nat} (hf : Fits n B) (h : shapedN n b = some s) : Fits s B := by
  rcases shaped_cases n b with ⟨e, _⟩ | ⟨_, _, e⟩ | ⟨k, hl, hk, e⟩
  · rw [e] at h; cases h; exact hf
  · rw [e] at h; cases h
  · rw [e] at h; cases h
    have h2 := hf.parts
    have hfk := h2.2.mem k (by rw [hk]; simp)
    have h3 := hfk.parts
    refine Fits.mk' ?_ ?_
    · rw [ByteArray.size_append]; omega
    · rw [ByteArray.size_append, Nat.sub_add_eq]; exact h3.2
theorem fits_del : ∀ (N : Nat) (rest : ByteArray), rest.size ≤ N → ∀ (n m : Nd) (B : Nat) (ns : Sup) (l : Lf), Fits n B → delN n rest ns = some (m, l) → Fits m B := by
  intro N
  induction N with
  | zero =>
    intro rest hN n m B ns l hf h
    rcases delN_some h with ⟨h0, h1, h2⟩ | ⟨h0, _⟩
    · rw [h2]; exact Fits.mk' hf.parts.1 hf.parts.2
    · omega
  | succ N ih =>
    intro rest hN n m B ns l hf h
    rcases delN_some h with ⟨h0, h1, h2⟩ | ⟨h0, k, low, hd, hp, hdel, h2⟩
    · rw [h2]; exact Fits.mk' hf.parts.1 hf.parts.2
    · rw [h2]
      have hkm := (downN_some hd).1
      have hfl := ih (rest.extract k.label.size rest.size) (by simp only [ByteArray.size_extract]; omega) k low _ _ l (hf.parts.2.mem k hkm) hdel
      refine Fits.mk' hf.parts.1 (Fitss.of fun x hx => ?_)
      rcases mem_putKid hx with e | e
      · exact hf.parts.2.mem x e
      · exact fits_shaped hfl e
def Full (n : Nd) : Prop := n.leaf.isSome = true ∨ 2 ≤ n.kids.length
mutual
/-- every node beneath n is full -/
def Br : Nd → Prop
  | .mk _ _ _ kids _ => Brs kids
def Brs : List Nd → Prop
  | [] => True
  | n :: r => (Full n ∧ Br n) ∧ Brs r
end
theorem Br.parts {n : Nd} (h : Br n) : Brs n.kids := by cases n; unfold Br at h; exact h
theorem Br.mk' {b : Nat} {label : ByteArray} {leaf : Option Lf} {kids : List Nd} {m : Value} (h : Brs kids) : Br (.mk b label leaf kids m) := by unfold Br; exact h
theorem Brs.mem : ∀ {ks : List Nd}, Brs ks → ∀ k ∈ ks, Full k ∧ Br k
  | n :: r, h, k, hk => by
    unfold Brs at h
    rcases List.mem_cons.1 hk with e | e
    · rw [e]; exact h.1
    · exact Brs.mem h.2 k e
theorem Brs.of : ∀ {ks : List Nd}, (∀ k ∈ ks, Full k ∧ Br k) → Brs ks
  | [], _ => by unfold Brs; trivial
  | n :: r, h => by unfold Brs; exact ⟨h n (by simp), Brs.of (fun k hk => h k (by simp [hk]))⟩
theorem full_ins (n : Nd) (rest : ByteArray) (l : Lf) (ns : Sup) (h : Full n) : Full (insN n rest l ns) := by
  unfold Full at h ⊢
  rw [insN]
  split
  · exact .inl rfl
  · split
    · refine h.imp id (fun h => ?_)
      show 2 ≤ (insAt _ _ n.kids).length
      unfold insAt
      rw [List.length_append, List.length_cons, List.length_take, List.length_drop]
      omega
    · split
      · refine h.imp id (fun h => ?_)
        show 2 ≤ (n.kids.set _ _).length
        rw [List.length_set]; exact h
      · refine h.imp id (fun h => ?_)
        show 2 ≤ (n.kids.set _ _).length
        rw [List.length_set]; exact h
theorem br_tip (s : ByteArray) (l : Lf) (a : Nat × Value) : Full (tipN s l a) ∧ Br (tipN s l a) := ⟨.inl rfl, Br.mk' (by unfold Brs; trivial)⟩
theorem br_ins : ∀ (N : Nat) (rest : ByteArray), rest.size ≤ N → ∀ (n : Nd), Br n → ∀ (l : Lf) (ns : Sup), Br (insN n rest l ns) := by
  intro N
  induction N with
  | zero =>
    intro rest hN n hb l ns
    rw [insN, dif_pos (by omega)]
    exact Br.mk' hb.parts
  | succ N ih =>
    intro rest hN n hb l ns
    rw [insN]
    split
    · exact Br.mk' hb.parts
    · split
      · refine Br.mk' (Brs.of fun k hk => ?_)
        rcases mem_insAt hk with e | e
        · rw [e]; exact br_tip _ _ _
        · exact hb.parts.mem k e
      · rename_i k e
        obtain ⟨hh, hlt, ek⟩ := kidN_some e
        have hkm : k ∈ n.kids := by rw [← ek]; exact List.getElem_mem _
        have hbk := hb.parts.mem k hkm
        split
        · refine Br.mk' (Brs.of fun k' hk' => ?_)
          rcases List.mem_or_eq_of_mem_set hk' with e | e
          · exact hb.parts.mem k' e
          · rw [e]
            exact ⟨full_ins k _ l _ hbk.1, ih _ (by simp only [ByteArray.size_extract]; omega) k hbk.2 l _⟩
        · refine Br.mk' (Brs.of fun k' hk' => ?_)
          rcases List.mem_or_eq_of_mem_set hk' with e | e
          · exact hb.parts.mem k' e
          · rw [e]
            have hlow : Full (lowN k (comB k.label rest) (ns 2).1) ∧ Br (lowN k (comB k.label rest) (ns 2).1) := ⟨hbk.1, Br.mk' hbk.2.parts⟩
            unfold splitN
            split
            · refine ⟨.inl rfl, Br.mk' (Brs.of fun k2 hk2 => ?_)⟩
              rw [List.mem_singleton] at hk2
              rw [hk2]; exact hlow
            · refine ⟨.inr ?_, Br.mk' (Brs.of fun k2 hk2 => ?_)⟩
              · show 2 ≤ (insAt _ _ [_]).length
                unfold insAt
                rw [List.length_append, List.length_cons, List.length_take, List.length_drop]
                simp only [List.length_singleton]
                omega
              · rcases mem_insAt hk2 with e | e
                · rw [e]; exact br_tip _ _ _
                · rw [List.mem_singleton] at e; rw [e]; exact hlow
theorem br_shaped {n s : Nd} {b : Nat} (hb : Br n) (h : shapedN n b = some s) : Full s ∧ Br s := by
  rcases shaped_cases n b with ⟨e, hf⟩ | ⟨_, _, e⟩ | ⟨k, hl, hk, e⟩
  · rw [e] at h; cases h; exact ⟨hf, hb⟩
  · rw [e] at h; cases h
  · rw [e] at h; cases h
    have h2 := hb.parts.mem k (by rw [hk]; simp)
    exact ⟨h2.1, Br.mk' h2.2.parts⟩
theorem br_del : ∀ (N : Nat) (rest : ByteArray), rest.size ≤ N → ∀ (n m : Nd) (ns : Sup) (l : Lf), Br n → delN n rest ns = some (m, l) → Br m := by
  intro N
  induction N with
  | zero =>
    intro rest hN n m ns l hf h
    rcases delN_some h with ⟨h0, h1, h2⟩ | ⟨h0, _⟩
    · rw [h2]; exact Br.mk' hf.parts
    · omega
  | succ N ih =>
    intro rest hN n m ns l hf h
    rcases delN_some h with ⟨h0, h1, h2⟩ | ⟨h0, k, low, hd, hp, hdel, h2⟩
    · rw [h2]; exact Br.mk' hf.parts
    · rw [h2]
      have hkm := (downN_some hd).1
      have hbl := ih (rest.extract k.label.size rest.size) (by simp only [ByteArray.size_extract]; omega) k low _ l (hf.parts.mem k hkm).2 hdel
      refine Br.mk' (Brs.of fun x hx => ?_)
      rcases mem_putKid hx with e | e
      · exact hf.parts.mem x e
      · exact br_shaped hbl e
structure Fine (root : Nd) : Prop extends Good root where
  fits : Fits root 3999999999999
  br : Br root
theorem fine_empty (b : Nat) (m : Value) : Fine (emptyN b m) := ⟨good_empty b m, Fits.mk' (by decide) (by unfold Fitss; trivial), Br.mk' (by unfold Brs; trivial)⟩
theorem fine_ins {root : Nd} (h : Fine root) (k : ByteArray) (hk : k.size < 4000000000000) (l : Lf) (hl : l.key = k) (ns : Sup) : Fine (insN root k l ns) :=
  ⟨good_ins h.toGood k hk l hl ns, fits_ins k.size k (Nat.le_refl _) root _ (by have := h.top; omega) h.fits l ns, br_ins k.size k (Nat.le_refl _) root h.br l ns⟩
theorem fine_del {root m : Nd} (h : Fine root) (k : ByteArray) (l : Lf) (ns : Sup) (hd : delN root k ns = some (m, l)) : Fine m ∧ findT root (L k) = some l ∧ ∀ r, findT m r = if r = L k then none else findT root r := by
  have hd2 := del_find k.size k (Nat.le_refl _) root h.ok ns
  have hf := fits_del k.size k (Nat.le_refl _) root m _ ns l h.fits hd
  cases e : findT root (L k) with
  | none => rw [hd2.1 e] at hd; cases hd
  | some l' =>
    obtain ⟨m', h1, h2, h3, h4⟩ := hd2.2 l' e
    rw [hd] at h1
    cases h1
    refine ⟨⟨⟨h3, hf.sm (by omega), by rw [h2]; exact h.top, fun r l2 h5 => ?_⟩, hf, br_del k.size k (Nat.le_refl _) root m ns l h.br hd⟩, rfl, h4⟩
    rw [h4] at h5
    split at h5
    · cases h5
    · exact h.keys r l2 h5
theorem all_del {root m : Nd} (h : Fine root) (k : ByteArray) (l : Lf) (ns : Sup) (hd : delN root k ns = some (m, l)) : All m = (All root).filter (fun e => decide (e.1 ≠ L k)) := by
  obtain ⟨hm, _, hf⟩ := fine_del h k l ns hd
  refine rise_ext (all_rise hm.toGood) ((all_rise h.toGood).filter _) (fun x => ?_)
  obtain ⟨q, l'⟩ := x
  rw [mem_all hm.toGood, hf, List.mem_filter, mem_all h.toGood]
  by_cases e : q = L k
  · rw [if_pos e]; simp [e]
  · rw [if_neg e]; simp [e]
end Go.Proofs.YtjhgknagmiekeaaGreat.T
set_option linter.unusedVariables false
set_option linter.unusedSimpArgs false
namespace Go.Proofs.YtjhgknagmiekeaaGreat.T
open Go.RowKit Go.Lib Go.Proofs Go.Proofs.YtjhgknagmiekeaaGreatW.PrintWords
theorem NdAt.marked {w : World} {n : Nd} (h : NdAt w n) : ∃ mb, n.mark = ptr mb := by
  cases n; unfold NdAt at h; exact h.2.2.2
set_option maxHeartbeats 4000000 in
set_option maxRecDepth 100000 in
theorem shaped_self (w : World) (n : Nd) (hn : NdAt w n) (ho : Ok n) (h : n.leaf.isSome = true ∨ 1 < n.kids.length) :
    Calls Tryz.prog 91 #[ptr n.b] w fun e w' => e = .returned (ptr n.b) ∧ w' = w := by
  obtain ⟨kv, hb, hr, hl, hk⟩ := hn.parts
  have hfew := ho.few
  cases e : n.leaf with
  | some l =>
    have c1 : w.cell? ⟨n.b, 1, none⟩ = some (.pointer (some ⟨l.b, 0, none⟩)) := by rw [blk_cell hb, e]; rfl
    clear hb hr hl hk hn ho h e
    unfold ptr
    go_enter Tryz.func91, Tryz.ntmps91
    go_wp2_with fail
    go_ret
    exact ⟨rfl, rfl⟩
  | none =>
    have hlen : 1 < n.kids.length := h.resolve_left (by rw [e]; simp)
    have c1 : w.cell? ⟨n.b, 1, none⟩ = some (.pointer none) := by rw [blk_cell hb, e]; rfl
    obtain ⟨A, c, rfl, _⟩ := hr.open
    have elen : (ptrs n.kids).length = n.kids.length := by simp [ptrs]
    rw [elen] at hb
    have c2 : w.cell? ⟨n.b, 2, none⟩ = some (.slice A n.kids.length c) := by rw [blk_cell hb]; rfl
    obtain ⟨len, hlen'⟩ : ∃ len, n.kids.length = len := ⟨_, rfl⟩
    rw [hlen'] at c2 hlen
    have hI : (1 : Int) < (len : Int) := by omega
    clear hb hr hl hk hn ho h e elen hfew hlen'
    unfold ptr
    go_enter Tryz.func91, Tryz.ntmps91
    go_wp2_with fail
    go_ret
    exact ⟨rfl, rfl⟩
set_option maxHeartbeats 4000000 in
set_option maxRecDepth 100000 in
theorem shaped_gone (w : World) (n : Nd) (hn : NdAt w n) (h1 : n.leaf = none) (h2 : n.kids = []) :
    Calls Tryz.prog 91 #[ptr n.b] w fun e w' => e = .returned (.pointer none) ∧ w' = w := by
  obtain ⟨kv, hb, hr, hl, hk⟩ := hn.parts
  have c1 : w.cell? ⟨n.b, 1, none⟩ = some (.pointer none) := by rw [blk_cell hb, h1]; rfl
  obtain ⟨A, c, rfl, _⟩ := hr.open
  have elen : (ptrs n.kids).length = 0 := by simp [ptrs, h2]
  rw [elen] at hb
  have c2 : w.cell? ⟨n.b, 2, none⟩ = some (.slice A 0 c) := by rw [blk_cell hb]; rfl
  clear hb hr hl hk hn h1 h2 elen
  unfold ptr
  go_enter Tryz.func91, Tryz.ntmps91
  go_wp2_with fail
  go_ret
  exact ⟨rfl, rfl⟩
set_option maxHeartbeats 4000000 in
set_option maxRecDepth 100000 in
theorem shaped_one (wB w : World) (hkB : Kept wB w) (n k : Nd) (hnB : NdAt wB n) (h1 : n.leaf = none) (h2 : n.kids = [k]) (hs : n.label.size + k.label.size < 4000000000000) :
    Calls Tryz.prog 91 #[ptr n.b] w fun e w' => e = .returned (ptr w.heap.size) ∧ (∀ W, Kept wB W → (∀ x, w.heap.size ≤ x → x < w'.heap.size → W.heap[x]? = w'.heap[x]?) → NdAt W (joinN n k w.heap.size)) ∧ w'.heap.size = w.heap.size + 1 ∧ Below w.heap.size w w' := by
  obtain ⟨kv, hb0, hr0, hl, hk⟩ := hnB.parts
  have hb := hkB.at hb0
  have hr := hr0.keep hkB
  have c0 : w.cell? ⟨n.b, 0, none⟩ = some (.string n.label) := by rw [blk_cell hb]; rfl
  have c1 : w.cell? ⟨n.b, 1, none⟩ = some (.pointer none) := by rw [blk_cell hb, h1]; rfl
  obtain ⟨A, c, rfl, hrc⟩ := hr.open
  have elen : (ptrs n.kids).length = 1 := by simp [ptrs, h2]
  obtain ⟨ad, rfl, hca⟩ := hrc 0 (by omega)
  have ep : (ptrs n.kids)[0] = ptr k.b := by simp [ptrs, h2]
  rw [ep] at hca
  rw [elen] at hb
  have c2 : w.cell? ⟨n.b, 2, none⟩ = some (.slice (some ad) 1 c) := by rw [blk_cell hb]; rfl
  have hkn : NdAt wB k := by have := hk.get 0 (by rw [h2]; simp); simpa [h2] using this
  obtain ⟨kv2, hb2', hr2, hl2, hk2⟩ := hkn.parts
  have hb2 := hkB.at hb2'
  have d0 : w.cell? ⟨k.b, 0, none⟩ = some (.string k.label) := by rw [blk_cell hb2]; rfl
  obtain ⟨lp, elp⟩ := leafPtr_form k.leaf
  have d1 : w.cell? ⟨k.b, 1, none⟩ = some (.pointer lp) := by rw [blk_cell hb2, elp]; rfl
  obtain ⟨mb, emb⟩ := hkn.marked
  have d3 : w.cell? ⟨k.b, 3, none⟩ = some (.pointer (some ⟨mb, 0, none⟩)) := by rw [blk_cell hb2, emb]; rfl
  have d2 : w.cell? ⟨k.b, 2, none⟩ = some kv2 := by rw [blk_cell hb2]; rfl
  have ca0 : w.cell? ad = some (.pointer (some ⟨k.b, 0, none⟩)) := hca
  have H := Aside0.mk (And.intro elp (And.intro emb (And.intro hr2 (And.intro hl2 hk2))))
  have HS := Aside0.mk (And.intro hs hkB)
  obtain ⟨A2, cc2, rfl, _⟩ := hr2.open
  have hz1 : n.label.size + k.label.size ≤ 9223372036854775807 := by omega
  have hadd := fun w1 : World => run_string_add_sum (P := Tryz.prog) w1 n.label k.label hz1
  clear hz1
  clear hb hr hl hk hnB h1 h2 elen hrc ep hca hkn hb2 hr2 hl2 hk2 elp emb hs hb0 hr0 hb2' hkB
  unfold ptr
  go_enter Tryz.func91, Tryz.ntmps91
  go_wp2_with fail
  go_region_held3 (fun w' => w'.cell? ⟨n.b, 0, none⟩ = some (.string n.label) ∧ w'.cell? ⟨k.b, 0, none⟩ = some (.string k.label) ∧ w'.cell? ⟨k.b, 1, none⟩ = some (.pointer lp) ∧ w'.cell? ⟨k.b, 2, none⟩ = some (.slice A2 (ptrs k.kids).length cc2) ∧ w'.cell? ⟨k.b, 3, none⟩ = some (.pointer (some ⟨mb, 0, none⟩)))
    (first | exact ⟨c0, d0, d1, d2, d3⟩ | exact ⟨cellA c0, cellA d0, cellA d1, cellA d2, cellA d3⟩)
    (fail)
  go_wp2_with fail
  go_ret
  obtain ⟨elp, emb, hr2, hl2, hk2⟩ := H.out
  have B := (Below.refl w.heap.size w).alloc (Nat.le_refl _) (.cells #[.string (n.label ++ k.label), .pointer lp, .slice A2 (ptrs k.kids).length cc2, .pointer (some ⟨mb, 0, none⟩)] 145)
  have hsz : (w.alloc (.cells #[.string (n.label ++ k.label), .pointer lp, .slice A2 (ptrs k.kids).length cc2, .pointer (some ⟨mb, 0, none⟩)] 145)).drew.heap.size = w.heap.size + 1 := by
    show (w.alloc _).heap.size = _
    rw [World.size_alloc]
  refine ⟨rfl, fun W hW hA => ?_, hsz, ⟨B.os, B.tape, B.output, B.size, B.block⟩⟩
  refine NdAt.mk (kv := .slice A2 (ptrs k.kids).length cc2) ?_ (hr2.keep hW) (hl2.keep hW) (NdsAt.keep hW _ hk2) ⟨mb, emb⟩
  rw [elp, emb, hA w.heap.size (Nat.le_refl _) (by omega)]
  exact heap_alloc_new w _
theorem shaped_any (n : Nd) (c : Nat) : (∃ k, n.kids = [k] ∧ shapedN n c = some (joinN n k c)) ∨ ∀ x, shapedN n x = shapedN n c := by
  rcases shaped_cases n c with ⟨e, h⟩ | ⟨hl, hk, e⟩ | ⟨k, hl, hk, e⟩
  · refine .inr fun x => ?_
    rw [e]; unfold shapedN; rw [if_pos h]
  · refine .inr fun x => ?_
    rw [e]; unfold shapedN; rw [hl, hk]; rfl
  · exact .inl ⟨k, hk, e⟩
theorem shapedC (wB w : World) (hkB : Kept wB w) (n : Nd) (hnB : NdAt wB n) (ho : Ok n) (hf : Fits n 3999999999999) :
    Calls Tryz.prog 91 #[ptr n.b] w fun e w' => e = .returned (optPtr (shapedN n w.heap.size)) ∧ (∀ W, Kept wB W → (∀ x, w.heap.size ≤ x → x < w'.heap.size → W.heap[x]? = w'.heap[x]?) → ∀ s, shapedN n w.heap.size = some s → NdAt W s) ∧
      ((∃ k, n.kids = [k] ∧ shapedN n w.heap.size = some (joinN n k w.heap.size)) → w.heap.size < w'.heap.size) ∧ Below w.heap.size w w' := by
  have hn := NdAt.keep hkB n hnB
  rcases shaped_cases n w.heap.size with ⟨e, h⟩ | ⟨hl, hk, e⟩ | ⟨k, hl, hk, e⟩
  · rw [e]
    refine (shaped_self w n hn ho h).mono ?_
    rintro e w' ⟨rfl, rfl⟩
    refine ⟨rfl, fun W hW _ s e => (by cases e; exact NdAt.keep hW n hnB), ?_, Below.refl _ _⟩
    rintro ⟨k, hk, e⟩
    obtain ⟨kv, hb, _⟩ := hn.parts
    have hlt := (Array.getElem?_eq_some_iff.1 hb).1
    have := congrArg (Option.map Nd.b) e
    simp [joinN, Nd.b] at this
    cases n with
    | mk b _ _ _ _ => simp [Nd.b] at this hlt; omega
  · rw [e]
    refine (shaped_gone w n hn hl hk).mono ?_
    rintro e w' ⟨rfl, rfl⟩
    exact ⟨rfl, fun W _ _ s e => (by cases e), fun ⟨k, _, e⟩ => (by cases e), Below.refl _ _⟩
  · rw [e]
    have h2 := hf.parts
    have h3 := (h2.2.mem k (by rw [hk]; simp)).parts
    refine (shaped_one wB w hkB n k hnB hl hk (by omega)).mono ?_
    rintro e w' ⟨rfl, h4, h5, h6⟩
    exact ⟨rfl, fun W hW hA s e => (by cases e; exact h4 W hW hA), fun _ => by omega, h6⟩
end Go.Proofs.YtjhgknagmiekeaaGreat.T
set_option linter.unusedVariables false
set_option linter.unusedSimpArgs false
namespace Go.Proofs.YtjhgknagmiekeaaGreat.T
open Go.Shelf
def del_ren : Go.Shelf.Ren := ⟨fun | 45 => 92 | n => n, fun | 22 => 143 | 23 => 106 | n => n, fun | n => n⟩
theorem delLays : Go.Proofs.SlLaysE.n45 Tryz.prog del_ren := {
  mixed := by kernel_rfl
  f45 := ⟨Tryz.f92.name, by decide, Tryz.func92.trans (congrArg some (by kernel_rfl))⟩
  t0 := Tryz.underlying0
  a0 := Tryz.isAgg0
  z0 := Tryz.sizeOf0
  v0 := Tryz.zeroValue0
  t3 := Tryz.underlying3
  a3 := Tryz.isAgg3
  z3 := Tryz.sizeOf3
  v3 := Tryz.zeroValue3
  t4 := Tryz.underlying4
  a4 := Tryz.isAgg4
  z4 := Tryz.sizeOf4
  v4 := Tryz.zeroValue4
  t22 := Tryz.underlying143
  a22 := Tryz.isAgg143
  z22 := Tryz.sizeOf143
  v22 := Tryz.zeroValue143
  a23 := Tryz.isAgg106
  z23 := Tryz.sizeOf106 }
open Go.RowKit Go.Lib Go.Proofs Go.Proofs.YtjhgknagmiekeaaGreatW.PrintWords
def spot (k : Nd) : Option Addr := some ⟨k.b, 0, none⟩
theorem ptrs_spot (ks : List Nd) : ptrs ks = (ks.map spot).map Value.pointer := by simp [ptrs, spot, ptr]
theorem delRow (w : World) (base g n cap i : Nat) (ks : List Nd) (hown : w.ownsRow base 106 1 (.slice (some ⟨g, 0, none⟩) n cap) n (ptrs ks)) (hi : i < n) :
    Calls Tryz.prog 92 #[.slice (some ⟨g, 0, none⟩) n cap, .int .i64 i, .int .i64 ((i : Int) + 1)] w fun e w' => e = .returned (.slice (some ⟨g, 0, none⟩) (n - 1) cap) ∧ w'.ownsRow base 106 1 (.slice (some ⟨g, 0, none⟩) (n - 1) cap) (n - 1) (ptrs (ks.eraseIdx i)) ∧ w.grownBy w' (some g) ∧ base ≤ g := by
  have hkl : ks.length = n := by have := hown.1; simpa [ptrs] using this
  rw [ptrs_spot] at hown
  obtain ⟨g', cap', e1, hb, hlt, hnc, hcm, hzl, hH⟩ := Go.Lib.holds_of_ownsRow (enc := Value.pointer) hown (by simp)
  injection e1 with e1 _ e3
  injection e1 with e1
  injection e1 with e1
  subst e1; subst e3
  obtain ⟨i0, hi0, h0, h1, h2⟩ := info_parts infoP
  have hsz : (ks.map spot).toArray.size = n := by simp [hkl]
  have q := AnyE.slices_Delete delLays Value.pointer (fun _ => rfl) none (show ∀ w, (zeroValue 106).run Tryz.prog w = .ok (.pointer none) w from Tryz.zeroValue106) i0 hi0 h1 g 0 cap i (i + 1) (ks.map spot).toArray w hH (by rw [hsz]; exact hnc) (by unfold maxLen at hcm; exact hcm) (by omega) (by rw [hsz]; omega)
  rw [hsz, show i + 1 - i = 1 by omega] at q
  refine Calls.mono (show Calls Tryz.prog 92 #[.slice (some ⟨g, 0, none⟩) n cap, .int .i64 i, .int .i64 ((i : Int) + 1)] w _ from q) ?_
  rintro e w' ⟨rfl, m, rfl⟩
  have hl2 : ((ks.map spot).take i ++ (ks.map spot).drop (i + 1) ++ List.replicate 1 (none : Option Addr)).length = n := by
    simp only [List.length_append, List.length_take, List.length_drop, List.length_map, List.length_replicate]
    omega
  have ho := Go.Lib.ownsRow_putRow (q := m) (k := n - 1) hown hl2 (by omega)
  refine ⟨rfl, ?_, ⟨rfl, rfl, rfl, ?_, fun k hk hn => ?_⟩, hb⟩
  · have e2 : (((ks.map spot).take i ++ (ks.map spot).drop (i + 1) ++ List.replicate 1 (none : Option Addr)).take (n - 1)).map Value.pointer = ptrs (ks.eraseIdx i) := by
      rw [List.take_left' (by simp only [List.length_append, List.length_take, List.length_drop, List.length_map]; omega), ptrs_spot, List.eraseIdx_eq_take_drop_succ]
      simp
    rw [← e2]
    exact ho
  · simp [Go.Sort.putRow, Go.Sort.mapBlock, Go.Sort.ahead]
  · have : k ≠ g := fun e => hn (by rw [e])
    simp [Go.Sort.putRow, Go.Sort.mapBlock, Go.Sort.ahead, Array.getElem?_modify, show g ≠ k by omega]
end Go.Proofs.YtjhgknagmiekeaaGreat.T
set_option linter.unusedVariables false
set_option linter.unusedSimpArgs false
namespace Go.Proofs.YtjhgknagmiekeaaGreat.T
open Go.RowKit Go.Lib Go.Proofs Go.Proofs.YtjhgknagmiekeaaGreatW.PrintWords
theorem find_rest0 {n : Nd} {rest : ByteArray} (h : rest.size = 0) : findT n (L rest) = n.leaf := by
  have e : L rest = [] := List.length_eq_zero_iff.1 (by rw [L_len]; omega)
  rw [e, findT_nil]
theorem down_cases {n : Nd} (ho : Ok n) {rest : ByteArray} (h0 : rest.size ≠ 0) :
    (downN n rest = none ∧ findT n (L rest) = none) ∨ ∃ k, downN n rest = some k ∧ k ∈ n.kids ∧ 0 < k.label.size ∧ k.label.size ≤ rest.size ∧ kidN n rest = some k ∧ findT n (L rest) = findT k (L (rest.extract k.label.size rest.size)) := by
  have hne : L rest ≠ [] := fun e => h0 (by rw [← L_len, e]; rfl)
  have hq := kidN_eq n ho rest
  have hdn := downN_eq n ho rest h0
  rw [findT_eq _ _ hne]
  cases e : kidT n.kids (hd (L rest)) with
  | none => rw [e] at hdn; exact .inl ⟨hdn, rfl⟩
  | some k =>
    rw [e] at hdn hq
    simp only [Option.bind_some] at hdn ⊢
    have hkm : k ∈ n.kids := (kidT_some e).1
    have hpos := ho.parts.2.1 k hkm
    unfold below
    by_cases hp : L k.label <+: L rest
    · rw [if_pos hp] at hdn
      rw [if_pos ⟨hpos, hp⟩]
      have hle := hp.length_le
      rw [L_len, L_len] at hle
      exact .inr ⟨k, hdn, hkm, hpos, hle, hq, by rw [L_tail]⟩
    · rw [if_neg hp] at hdn
      rw [if_neg (fun h => hp h.2)]
      exact .inl ⟨hdn, rfl⟩
set_option maxHeartbeats 4000000 in
set_option maxRecDepth 100000 in
theorem remove_none : ∀ (N : Nat) (rest : ByteArray), rest.size ≤ N → rest.size < 4000000000000 → ∀ (n : Nd) (w : World), NdAt w n → Ok n → findT n (L rest) = none →
    Calls Tryz.prog 59 #[ptr n.b, .string rest] w fun e w' => e = .returned (.tuple #[ptr n.b, .pointer none]) ∧ w' = w := by
  have empty : ∀ (rest : ByteArray) (n : Nd) (w : World), NdAt w n → rest.size = 0 → findT n (L rest) = none → Calls Tryz.prog 59 #[ptr n.b, .string rest] w fun e w' => e = .returned (.tuple #[ptr n.b, .pointer none]) ∧ w' = w := by
    intro rest n w hn h0 hf
    rw [find_rest0 h0] at hf
    obtain ⟨kv, hb, hr, hl, hk⟩ := hn.parts
    have c1 : w.cell? ⟨n.b, 1, none⟩ = some (.pointer none) := by rw [blk_cell hb, hf]; rfl
    have e0 := empty_of rest h0
    subst e0
    clear hn hb hr hl hk hf h0
    unfold ptr
    go_enter Tryz.func59, Tryz.ntmps59
    go_wp2_with fail
    go_ret2
    exact ⟨rfl, rfl⟩
  intro N
  induction N with
  | zero => intro rest hN hbg n w hn ho hf; exact empty rest n w hn (by omega) hf
  | succ N ih =>
    intro rest hN hbg n w hn ho hf
    by_cases h0 : rest.size = 0
    · exact empty rest n w hn h0 hf
    · have hne := full_of rest (by omega)
      have q1 := Aside0.mk (downC w n hn ho rest)
      rcases down_cases ho h0 with ⟨hd, _⟩ | ⟨k, hd, hkm, hpos, hle, _, hfk⟩
      · rw [hd] at q1
        clear hn ho hf hd ih empty
        unfold optPtr at q1
        unfold ptr at q1 ⊢
        go_enter Tryz.func59, Tryz.ntmps59
        go_wp2_with (go_at_call 89; refine q1.out.mono ?_; rintro e w1 ⟨rfl, rfl⟩)
        go_ret2
        exact ⟨rfl, rfl⟩
      · rw [hd] at q1
        rw [hfk] at hf
        obtain ⟨ii, hii, eii⟩ := List.getElem_of_mem hkm
        have hkn : NdAt w k := by rw [← eii]; exact hn.parts.choose_spec.2.2.2.get ii hii
        obtain ⟨kv2, hb2, _⟩ := hkn.parts
        have c0 : w.cell? ⟨k.b, 0, none⟩ = some (.string k.label) := by rw [blk_cell hb2]; rfl
        have q2 := Aside0.mk (ih (rest.extract k.label.size rest.size) (by simp only [ByteArray.size_extract]; omega) (by simp only [ByteArray.size_extract]; omega) k w hkn (ho.parts.2.2.get k hkm) hf)
        have hleI : (k.label.size : Int) ≤ (rest.size : Int) := by omega
        clear hn ho hf hd ih empty hkm hii eii hkn hb2 hfk
        unfold optPtr at q1
        unfold ptr at q1 q2 ⊢
        go_enter Tryz.func59, Tryz.ntmps59
        go_wp2_with (go_at_call 89; refine q1.out.mono ?_; rintro e w1 ⟨rfl, rfl⟩)
        go_wp2_with (go_at_call 59; refine q2.out.mono ?_; rintro e w1 ⟨rfl, rfl⟩)
        go_ret2
        exact ⟨rfl, rfl⟩
def Removed (w : World) (n : Nd) (rest : ByteArray) (l : Lf) (e : Ending) (w' : World) : Prop := ∃ m ns, e = .returned (.tuple #[ptr m.b, ptr l.b]) ∧ delN n rest ns = some (m, l) ∧ NdAt w' m ∧ SupOk w.heap.size w' ns ∧ Below w.heap.size w w'
set_option maxHeartbeats 4000000 in
set_option maxRecDepth 100000 in
theorem remove_here (n : Nd) (rest : ByteArray) (l : Lf) (w : World) (hn : NdAt w n) (ho : Ok n) (h0 : rest.size = 0) (hf : n.leaf = some l) :
    Calls Tryz.prog 59 #[ptr n.b, .string rest] w (Removed w n rest l) := by
  have q1 := Aside0.mk (fresh w n hn ho.few)
  obtain ⟨kv0, hb0, _, hlf, hks⟩ := hn.parts
  have c1 : w.cell? ⟨n.b, 1, none⟩ = some (.pointer (some ⟨l.b, 0, none⟩)) := by rw [blk_cell hb0, hf]; rfl
  have hnb : n.b < w.heap.size := (Array.getElem?_eq_some_iff.1 hb0).1
  have ed : ∀ ns, delN n rest ns = some (.mk (ns 0).1 n.label none n.kids (ns 0).2, l) := fun ns => by rw [delN, dif_pos h0, hf]; rfl
  have HN := Aside0.mk (And.intro hks (And.intro hnb ed))
  have e0 := empty_of rest h0
  subst e0
  clear hn ho h0 hf hb0 hlf hks hnb ed
  unfold ptr
  go_enter Tryz.func59, Tryz.ntmps59
  go_wp2_with (go_at_call 88; refine q1.out.mono ?_)
  rintro e w1 ⟨b, kv, m, rfl, hf⟩
  have HF := Aside0.mk hf
  have c1' := (Kept.of hf.kept).cell c1
  have k1 : w1.cell? ⟨b, 1, none⟩ = some (leafPtr n.leaf) := by rw [blk_cell hf.blk]; rfl
  obtain ⟨lp, elp⟩ := leafPtr_form n.leaf
  rw [elp] at k1
  have f1 : w1.frozen? ⟨b, 1, none⟩ = false := blk_frozen hf.blk 1
  have hbn : ¬ n.b = b := by have := hf.new; have := HN.out.2.1; omega
  have d1 := set_cell_ne (i := 1) (v := .pointer none) c1' hbn
  clear hf q1 elp
  unfold ptr
  go_wp2_with fail
  go_region
  go_wp2_with fail
  go_ret2
  have hf := HF.out
  obtain ⟨hks, hnb, ed⟩ := HN.out
  have KB : Below w.heap.size w ((w1.setCell ⟨b, 1, none⟩ (.pointer none)).drew) := by
    have h := kept_set hf.kept b hf.new 1 (.pointer none)
    exact ⟨h.os, h.tape, h.output, h.size, h.block⟩
  have hKK := Kept.of KB
  obtain ⟨c, hm, hc1, hc2, hc3⟩ := hf.mark
  have hcb : ∀ o t f x, w1.heap[x]? = some o → w1.heap[b]? = some (.cells t 145 f) → (∀ t f, o ≠ .cells t 145 f) → x ≠ b := fun o t f x h1 h2 h3 e => by
    rw [e, h2] at h1
    exact h3 _ _ (Option.some.inj h1).symm
  refine ⟨_, fun _ => (b, m), rfl, ed _, ?_, ⟨fun _ => ⟨hf.new, ?_⟩, fun _ => ⟨c, hm, hc1, ?_, ?_⟩⟩, KB⟩
  · refine NdAt.mk (kv := kv) ?_ ?_ (fun l e => by cases e) (NdsAt.keep hKK _ hks) ⟨_, hm⟩
    · exact heap_setCell w1 (g := b) (o := 1) (.pointer none) hf.blk
    · exact row_of_owns (owns_set hf.row hf.off 1 (.pointer none))
  · have := (Array.getElem?_eq_some_iff.1 hf.blk).1
    simpa [World.setCell] using this
  · have h := (Below.heap_setCell w1 ⟨b, 1, none⟩ (.pointer none) c (hcb _ _ _ c hc2 hf.blk (fun t f e => by cases e))).trans hc2
    exact h
  · have h := (Below.heap_setCell w1 ⟨b, 1, none⟩ (.pointer none) (c + 1) (hcb _ _ _ (c + 1) hc3 hf.blk (fun t f e => by unfold watchObj at e; cases e))).trans hc3
    exact h
end Go.Proofs.YtjhgknagmiekeaaGreat.T
set_option linter.unusedVariables false
set_option linter.unusedSimpArgs false
namespace Go.Proofs.YtjhgknagmiekeaaGreat.T
open Go.RowKit Go.Lib Go.Proofs Go.Proofs.YtjhgknagmiekeaaGreatW.PrintWords
def nsDown (a b : Nat × Value) (ns : Sup) : Sup := fun j => if j = 0 then a else if j = 1 then b else ns (j - 2)
theorem nsDown_tail (a b : Nat × Value) (ns : Sup) : (fun j => nsDown a b ns (j + 2)) = ns := by
  funext j
  simp [nsDown]
theorem belowAt {w w1 w2 : World} (h : Below w.heap.size w w1) (h2 : Below w1.heap.size w1 w2) : Below w.heap.size w w2 :=
  h.trans ⟨h2.os, h2.tape, h2.output, h2.size, fun x hx => h2.block x (by have := h.size; omega)⟩
theorem size_setCell (w : World) (a : Addr) (v : Value) : (w.setCell a v).heap.size = w.heap.size := by simp [World.setCell]
theorem ns_close {w w1 w2 w4 : World} {n : Nd} {b x : Nat} {kv m : Value} {ns : Sup} (B1 : Below w.heap.size w w1) (hs : SupOk w.heap.size w1 ns) (hf : FreshAt w1 w2 n b kv m) (h24 : ∀ y o, w2.heap[y]? = some o → (y < w1.heap.size ∨ ∃ c, m = ptr (c + 1) ∧ (y = c ∨ y = c + 1)) → w4.heap[y]? = some o) (hsz : w2.heap.size ≤ w4.heap.size) (hx : w.heap.size ≤ x ∧ x < w4.heap.size) :
    SupOk w.heap.size w4 (nsDown (b, m) (x, m) ns) := by
  have hb := (Array.getElem?_eq_some_iff.1 hf.blk).1
  have s1 := B1.size
  have s2 := hf.kept.size
  have hm : NewMark w.heap.size w4 m := by
    obtain ⟨c, hm, hc1, hc2, hc3⟩ := hf.mark
    exact ⟨c, hm, by omega, h24 c _ hc2 (.inr ⟨c, hm, .inl rfl⟩), h24 (c + 1) _ hc3 (.inr ⟨c, hm, .inr rfl⟩)⟩
  refine ⟨fun j => ?_, fun j => ?_⟩
  · unfold nsDown
    split
    · exact ⟨by have := hf.new; show _ ≤ b; omega, by show b < _; omega⟩
    · split
      · exact hx
      · have := hs.new (j - 2); omega
  · unfold nsDown
    split
    · exact hm
    · split
      · exact hm
      · obtain ⟨c, e1, e2, e3, e4⟩ := hs.mark (j - 2)
        have l1 := (Array.getElem?_eq_some_iff.1 e3).1
        have l2 := (Array.getElem?_eq_some_iff.1 e4).1
        exact ⟨c, e1, e2, h24 c _ ((Kept.of hf.kept).at e3) (.inl l1), h24 (c + 1) _ ((Kept.of hf.kept).at e4) (.inl l2)⟩
theorem fresh_apart {w1 w2 : World} {n : Nd} {b : Nat} {kv m : Value} (hf : FreshAt w1 w2 n b kv m) {g : Nat} {cur : Array Value} (hgb : w1.heap.size ≤ g) (hgg : w2.heap[g]? = some (.cells cur 106 (0, 0))) (y : Nat) (o : Obj) (hy : w2.heap[y]? = some o) (h : y < w1.heap.size ∨ ∃ c, m = ptr (c + 1) ∧ (y = c ∨ y = c + 1)) : y ≠ g ∧ y ≠ b := by
  have hb := hf.new
  rcases h with h | ⟨c, hm, h⟩
  · omega
  · obtain ⟨c', hm', hc1, hc2, hc3⟩ := hf.mark
    have e : c = c' := by
      rw [hm] at hm'
      unfold ptr at hm'
      injection hm' with e
      injection e with e
      injection e with e
      omega
    subst e
    have hbk := hf.blk
    constructor
    · intro e; subst e
      rcases h with h | h
      · subst h; rw [hc2] at hgg; cases hgg
      · subst h; rw [hc3] at hgg; unfold watchObj at hgg; cases hgg
    · intro e; subst e
      rcases h with h | h
      · subst h; rw [hc2] at hbk; cases hbk
      · subst h; rw [hc3] at hbk; unfold watchObj at hbk; cases hbk
theorem owns_keep {w w' : World} {base n : Nat} {v : Value} {ps : List Value} (h : w.ownsRow base 106 1 v n ps) (k : Kept w w') : w'.ownsRow base 106 1 v n ps := by
  refine ⟨h.1, ?_⟩
  rcases h.2 with h0 | ⟨g, cap, cur, rfl, hb, hg, rest⟩
  · exact .inl h0
  · exact .inr ⟨g, cap, cur, rfl, hb, k.at hg, rest⟩
theorem close_set {wB w2 w4 w5 : World} {n s : Nd} {b g cap i : Nat} {cur : Array Value} {m : Value} (hn : NdAt wB n) (K2 : Kept wB w2) (hBs : wB.heap.size ≤ w2.heap.size) (hf : FreshAt w2 w4 n b (.slice (some ⟨g, 0, none⟩) n.kids.length cap) m)
    (hgb : w2.heap.size ≤ g) (hgg : w4.heap[g]? = some (.cells cur 106 (0, 0))) (hgc : ∀ j, j < n.kids.length → cur[j]? = (ptrs n.kids)[j]?) (hgn : n.kids.length ≤ cap) (hgm : cap ≤ maxLen) (hgs : cur.size = cap) (B5 : Below w4.heap.size w4 w5)
    (hs : ∀ W, Kept w2 W → (∀ x, w4.heap.size ≤ x → x < w5.heap.size → W.heap[x]? = w5.heap[x]?) → NdAt W s) (hi : i < n.kids.length) :
    NdAt (w5.setCell ⟨g, i, none⟩ (ptr s.b)) (.mk b n.label n.leaf (n.kids.set i s) m) ∧ Below w2.heap.size w2 (w5.setCell ⟨g, i, none⟩ (ptr s.b)) ∧ (∀ y o, w4.heap[y]? = some o → y ≠ g → (w5.setCell ⟨g, i, none⟩ (ptr s.b)).heap[y]? = some o) := by
  have hB : Below w2.heap.size w2 (w5.setCell ⟨g, i, none⟩ (ptr s.b)) := kept_set (belowAt hf.kept B5) g hgb i (ptr s.b)
  have hK := Kept.of hB
  have hbg : b ≠ g := fun e => by have h := hf.blk; rw [e, hgg] at h; cases h
  have up : ∀ y o, w4.heap[y]? = some o → y ≠ g → (w5.setCell ⟨g, i, none⟩ (ptr s.b)).heap[y]? = some o := fun y o h1 h2 => set_at ((Kept.of B5).at h1) h2
  obtain ⟨kv0, hb0, _, hlf, hks⟩ := hn.parts
  obtain ⟨c, hm, _⟩ := hf.mark
  have KB : Kept wB (w5.setCell ⟨g, i, none⟩ (ptr s.b)) := K2.trans hK hBs
  have hgl : g < w4.heap.size := (Array.getElem?_eq_some_iff.1 hgg).1
  have hpl : (ptrs n.kids).length = n.kids.length := by simp [ptrs]
  refine ⟨NdAt.mk (kv := .slice (some ⟨g, 0, none⟩) n.kids.length cap) (up b _ hf.blk hbg) ?_ (hlf.keep KB) ((NdsAt.keep KB _ hks).set i s (hs _ hK (fun x h1 h2 => ?_))) ⟨_, hm⟩, hB, up⟩
  · rw [ptrs_set]
    refine row_of_owns (owns_of (base := w2.heap.size) (n := n.kids.length) hgb (heap_setCell w5 (g := g) (o := i) (ptr s.b) ((Kept.of B5).at hgg)) hgn hgm (by simpa using hgs) (by simp [hpl]) ?_)
    intro j hj
    by_cases e : j = i
    · subst e
      rw [Array.getElem?_setIfInBounds_self_of_lt (by omega), List.getElem?_set_self (by omega)]
    · rw [Array.getElem?_setIfInBounds_ne (by omega), List.getElem?_set_ne (by omega), hgc j hj]
  · exact Below.heap_setCell w5 ⟨g, i, none⟩ (ptr s.b) x (by show x ≠ g; omega)
theorem close_del {wB w2 w4 w5 w6 : World} {n : Nd} {b g cap i : Nat} {cur : Array Value} {m : Value} (hn : NdAt wB n) (K2 : Kept wB w2) (hBs : wB.heap.size ≤ w2.heap.size) (hf : FreshAt w2 w4 n b (.slice (some ⟨g, 0, none⟩) n.kids.length cap) m)
    (hgb : w2.heap.size ≤ g) (hgg : w4.heap[g]? = some (.cells cur 106 (0, 0))) (B5 : Below w4.heap.size w4 w5) (o6 : w6.ownsRow w2.heap.size 106 1 (.slice (some ⟨g, 0, none⟩) (n.kids.length - 1) cap) (n.kids.length - 1) (ptrs (n.kids.eraseIdx i))) (g6 : w5.grownBy w6 (some g)) (hi : i < n.kids.length) :
    NdAt (w6.setCell ⟨b, 2, none⟩ (.slice (some ⟨g, 0, none⟩) (n.kids.length - 1) cap)) (.mk b n.label n.leaf (n.kids.eraseIdx i) m) ∧ Below w2.heap.size w2 (w6.setCell ⟨b, 2, none⟩ (.slice (some ⟨g, 0, none⟩) (n.kids.length - 1) cap)) ∧
      (∀ y o, w4.heap[y]? = some o → y ≠ g → y ≠ b → (w6.setCell ⟨b, 2, none⟩ (.slice (some ⟨g, 0, none⟩) (n.kids.length - 1) cap)).heap[y]? = some o) := by
  have hbg : b ≠ g := fun e => by have h := hf.blk; rw [e, hgg] at h; cases h
  have hs2 := hf.kept.size
  have hs5 := B5.size
  have B6 : Below w2.heap.size w2 w6 := (belowAt hf.kept B5).trans (below_grown g6 (by omega) (fun k hk => by cases hk; exact hgb))
  have hB := kept_set B6 b hf.new 2 (.slice (some ⟨g, 0, none⟩) (n.kids.length - 1) cap)
  have hK := Kept.of hB
  have KB := K2.trans hK hBs
  have up6 : ∀ y o, w4.heap[y]? = some o → y ≠ g → w6.heap[y]? = some o := fun y o h1 h2 => grown_at g6 ((Kept.of B5).at h1) (fun e => h2 (by cases e; rfl))
  obtain ⟨kv0, hb0, _, hlf, hks⟩ := hn.parts
  obtain ⟨c, hm, _⟩ := hf.mark
  refine ⟨NdAt.mk (kv := .slice (some ⟨g, 0, none⟩) (n.kids.length - 1) cap) (heap_setCell w6 (g := b) (o := 2) _ (up6 b _ hf.blk hbg)) ?_ (hlf.keep KB) (NdsAt.of fun k hk => (NdsAt.keep KB _ hks).mem k (List.mem_of_mem_eraseIdx hk)) ⟨_, hm⟩, hB, fun y o h1 h2 h3 => set_at (up6 y o h1 h2) h3⟩
  exact row_of_owns (owns_set o6 (by simp [Value.ownBlock]; exact fun e => hbg e.symm) 2 _)
set_option maxHeartbeats 4000000 in
set_option maxRecDepth 100000 in
theorem remove_deep (w : World) (n k : Nd) (rest : ByteArray) (l : Lf) (hn : NdAt w n) (ho : Ok n) (hfit : Fits n 3999999999999) (h0 : rest.size ≠ 0) (hbig : rest.size < 4000000000000) (hd : downN n rest = some k) (hkm : k ∈ n.kids) (hpos : 0 < k.label.size) (hle : k.label.size ≤ rest.size) (hq : kidN n rest = some k)
    (hfk : findT k (L (rest.extract k.label.size rest.size)) = some l) (IH : Calls Tryz.prog 59 #[ptr k.b, .string (rest.extract k.label.size rest.size)] w (Removed w k (rest.extract k.label.size rest.size) l)) :
    Calls Tryz.prog 59 #[ptr n.b, .string rest] w (Removed w n rest l) := by
  obtain ⟨hh, hlt, ek⟩ := kidN_some hq
  have hrp : 0 < rest.size := by omega
  have hne := full_of rest hrp
  have q1 := Aside0.mk (downC w n hn ho rest)
  rw [hd] at q1
  obtain ⟨kv2, hb2, _⟩ := (hn.parts.choose_spec.2.2.2.mem k hkm).parts
  have c0 : w.cell? ⟨k.b, 0, none⟩ = some (.string k.label) := by rw [blk_cell hb2]; rfl
  have hleI : (k.label.size : Int) ≤ (rest.size : Int) := by omega
  have hfew := ho.few
  obtain ⟨i, hi⟩ : ∃ i, pos (n.kids.map fb) (fbS rest) = i := ⟨_, rfl⟩
  have q2 := Aside0.mk (fun w1 h1 w2 b kv m hf => kidF w1 w2 n b kv m (NdAt.keep h1 n hn) ho hf (fbS rest) (fbS_lt rest))
  have ex : ((fbS rest : Nat) : Int) = (rest[0].toNat : Int) := by unfold fbS; rw [← byte0 rest hrp]
  rw [hh, ex, hi] at q2
  have q0 := Aside0.mk (fun w1 (h1 : Kept w w1) => fresh w1 n (NdAt.keep h1 n hn) hfew)
  have hd2 := del_find (rest.extract k.label.size rest.size).size (rest.extract k.label.size rest.size) (Nat.le_refl _) k (ho.parts.2.2.get k hkm)
  have hfk2 : Fits k 3999999999999 := Fits.mono (by omega) k (hfit.parts.2.mem k hkm)
  have hlow : ∀ ns low, delN k (rest.extract k.label.size rest.size) ns = some (low, l) → Ok low ∧ Fits low 3999999999999 := fun ns low e => by
    obtain ⟨m, h1, _, h3, _⟩ := (hd2 ns).2 l hfk
    rw [e] at h1
    cases h1
    exact ⟨h3, fits_del _ _ (Nat.le_refl _) k low _ ns l hfk2 e⟩
  have q4 := Aside0.mk (fun (wB w1 : World) (h1 : Kept wB w1) ns low (e : delN k (rest.extract k.label.size rest.size) ns = some (low, l)) (hl : NdAt wB low) => shapedC wB w1 h1 low hl (hlow ns low e).1 (hlow ns low e).2)
  have ed : ∀ ns, delN n rest ns = (delN k (rest.extract k.label.size rest.size) (fun j => ns (j + 2))).map fun x => (.mk (ns 0).1 n.label n.leaf (putKid n.kids i (shapedN x.1 (ns 1).1)) (ns 0).2, x.2) := fun ns => by
    rw [delN, dif_neg h0, hd]; simp only []; rw [dif_pos hpos, hi]
  obtain ⟨len, elen⟩ : ∃ len, n.kids.length = len := ⟨_, rfl⟩
  have hilen : i < len := by rw [← hi, ← elen]; exact hlt
  have q3 := Aside0.mk IH
  have hkb : (ptrs n.kids)[i]? = some (ptr k.b) := by
    rw [← hi]; simp [ptrs, List.getElem?_eq_getElem hlt, ek]
  have HN := Aside0.mk (And.intro hn (And.intro ed (And.intro elen hkb)))
  have hlen256 : len ≤ 256 := by omega
  clear hn ho hfit hd hkm hq hfk IH hh hlt ek hb2 hfew ex hi hd2 hfk2 hlow ed hle hpos hkb
  unfold optPtr at q1
  unfold ptr at q1 q3 ⊢
  go_enter Tryz.func59, Tryz.ntmps59
  go_wp2_with (go_at_call 89; refine q1.out.mono ?_; rintro e w1 ⟨rfl, rfl⟩)
  clear q1
  go_wp2_with (go_at_call 59; refine q3.out.mono ?_)
  rintro e w2 ⟨low, ns, rfl, hdel, hlow, hsup, B2⟩
  have q5 := Aside0.mk (q0.out w2 (Kept.of B2))
  have q6 := Aside0.mk (q2.out w2 (Kept.of B2))
  have q7 := Aside0.mk (fun w1 h1 => q4.out w2 w1 h1 ns low hdel hlow)
  have H2 := Aside0.mk (And.intro hdel (And.intro hlow (And.intro hsup B2)))
  clear q3 q0 q2 q4 hdel hlow hsup B2
  unfold ptr
  go_wp2_with (go_at_call 88; refine q5.out.mono ?_)
  rintro e w3 ⟨b, kv, m, rfl, hf⟩
  have q8 := Aside0.mk (q6.out w3 b kv m hf)
  have q9 := Aside0.mk (q7.out w3 (Kept.of hf.kept))
  obtain ⟨g, cap, cur, rfl, hgb, hgg, hgc, hgn, hgm, hgs⟩ := owns_some hf.row (by rw [HN.out.2.2.1]; omega)
  have HF := Aside0.mk hf
  have HG0 := Aside0.mk (And.intro hgc hgn)
  rw [HN.out.2.2.1] at hf hgc hgn
  have HG := Aside0.mk (And.intro hgb (And.intro hgg (And.intro hgc (And.intro hgn (And.intro hgm hgs)))))
  have k2 : w3.cell? ⟨b, 2, none⟩ = some (.slice (some ⟨g, 0, none⟩) len cap) := by rw [blk_cell hf.blk]; rfl
  have f2 : w3.frozen? ⟨b, 2, none⟩ = false := blk_frozen hf.blk 2
  clear q5 q6 q7 hf hgb hgg hgc hgn hgm hgs
  unfold ptr at q8 ⊢
  go_wp2_with (go_at_call 90; refine q8.out.mono ?_)
  rintro e w4 ⟨rfl, rfl⟩
  clear q8
  have hcase := shaped_any low w4.heap.size
  cases hsh : shapedN low w4.heap.size with
  | some s =>
    rw [hsh] at q9
    unfold optPtr ptr at q9
    have HSH := Aside0.mk (And.intro hsh hcase)
    clear hsh hcase
    go_wp2_with (go_at_call 91; refine q9.out.mono ?_)
    rintro e w5 ⟨rfl, h5a, h5b, B5⟩
    have k2' := (Kept.of B5).cell k2
    have hgg5 := (Kept.of B5).at HG.out.2.1
    have hgs2 := HG.out.2.2.2.2.2
    have cgi : w5.cell? ⟨g, i, none⟩ = some (.pointer (some ⟨k.b, 0, none⟩)) := by rw [blk_cell hgg5, HG.out.2.2.1 i hilen]; exact HN.out.2.2.2
    have fgi : w5.frozen? ⟨g, i, none⟩ = false := blk_frozen hgg5 i
    have H5 := Aside0.mk (And.intro h5a (And.intro h5b (And.intro B5 hgg5)))
    clear h5a h5b B5 hgg5 hgs2 q9 k2 f2
    go_wp2_with fail
    go_ret2
    obtain ⟨hdel, hlow, hsup, B2⟩ := H2.out
    obtain ⟨h5a, h5b, B5, hgg5⟩ := H5.out
    obtain ⟨hn, ed, elen, hkb⟩ := HN.out
    obtain ⟨hgb, hgg, hgc, hgn, hgm, hgs⟩ := HG.out
    obtain ⟨hsh, hcase⟩ := HSH.out
    have hf := HF.out
    subst elen
    have hc := close_set (n := n) hn (Kept.of B2) B2.size hf hgb hgg HG0.out.1 HG0.out.2 hgm hgs B5 (fun W h1 h2 => h5a W h1 h2 s rfl) hilen
    obtain ⟨c1, c2, c3⟩ := hc
    have hbl := (Array.getElem?_eq_some_iff.1 hf.blk).1
    have s24 := hf.kept.size
    have s12 := B2.size
    have s45 := B5.size
    have hx : ∃ x, shapedN low x = some s ∧ w1.heap.size ≤ x ∧ x < (w5.setCell ⟨g, i, none⟩ (ptr s.b)).heap.size := by
      rw [size_setCell]
      rcases hcase with h | h
      · exact ⟨w4.heap.size, hsh, by omega, h5b (by obtain ⟨k', e1, e2⟩ := h; rw [hsh] at e2; exact ⟨k', e1, e2⟩)⟩
      · exact ⟨b, by rw [h]; exact hsh, by have := hf.new; omega, by omega⟩
    obtain ⟨x, hx1, hx2, hx3⟩ := hx
    refine ⟨.mk b n.label n.leaf (n.kids.set i s) m, nsDown (b, m) (x, m) ns, rfl, ?_, c1, ns_close B2 hsup hf (fun y o hy hh => c3 y o hy (fresh_apart hf hgb hgg y o hy hh).1) (by rw [size_setCell]; exact s45) ⟨hx2, hx3⟩, belowAt B2 c2⟩
    rw [ed, nsDown_tail, hdel]
    show some (Nd.mk b n.label n.leaf (putKid n.kids i (shapedN low x)) m, l) = _
    rw [hx1]
    rfl
  | none =>
    rw [hsh] at q9
    unfold optPtr at q9
    have HSH := Aside0.mk (And.intro hsh hcase)
    clear hsh hcase
    go_wp2_with (go_at_call 91; refine q9.out.mono ?_)
    rintro e w5 ⟨rfl, h5a, h5b, B5⟩
    have k2' := (Kept.of B5).cell k2
    have own5 : w5.ownsRow w2.heap.size 106 1 (.slice (some ⟨g, 0, none⟩) len cap) len (ptrs n.kids) := by
      have := owns_keep HF.out.row (Kept.of B5)
      rw [HN.out.2.2.1] at this
      exact this
    have hbg : b ≠ g := fun e => by have h := HF.out.blk; rw [e, HG.out.2.1] at h; cases h
    have f2' : w5.frozen? ⟨b, 2, none⟩ = false := blk_frozen ((Kept.of B5).at HF.out.blk) 2
    have hb5 := (Kept.of B5).at HF.out.blk
    rw [HN.out.2.2.1] at hb5
    have HB5 := Aside0.mk (And.intro hb5 hbg)
    have q10 := Aside0.mk (delRow w5 w2.heap.size g len cap i n.kids own5 hilen)
    have H5 := Aside0.mk (And.intro h5a (And.intro h5b (And.intro B5 own5)))
    clear h5a h5b B5 q9 k2 f2 own5 hb5 hbg
    have ew : IntKind.i64.wrap ((i : Int) + 1) = (i : Int) + 1 := by rw [IntKind.wrap_i64]; omega
    go_wp2_with (go_at_call 92; refine q10.out.mono ?_)
    rintro e w6 ⟨rfl, o6, g6, _⟩
    have hb6 := grown_at g6 HB5.out.1 (fun e => HB5.out.2 (by cases e; rfl))
    have k2'' : w6.cell? ⟨b, 2, none⟩ = some (.slice (some ⟨g, 0, none⟩) len cap) := by rw [blk_cell hb6]; rfl
    have f2'' : w6.frozen? ⟨b, 2, none⟩ = false := blk_frozen hb6 2
    have H6 := Aside0.mk (And.intro o6 g6)
    clear o6 g6 hb6 q10
    go_wp2_with fail
    go_ret2
    obtain ⟨hdel, hlow, hsup, B2⟩ := H2.out
    obtain ⟨h5a, h5b, B5, own5⟩ := H5.out
    obtain ⟨hn, ed, elen, hkb⟩ := HN.out
    obtain ⟨hgb, hgg, hgc, hgn, hgm, hgs⟩ := HG.out
    obtain ⟨hsh, hcase⟩ := HSH.out
    obtain ⟨o6, g6⟩ := H6.out
    have hf := HF.out
    subst elen
    have hc := close_del (n := n) hn (Kept.of B2) B2.size hf hgb hgg B5 o6 g6 hilen
    obtain ⟨c1, c2, c3⟩ := hc
    have hbl := (Array.getElem?_eq_some_iff.1 hf.blk).1
    have s24 := hf.kept.size
    have s12 := B2.size
    have s45 := B5.size
    have s56 := g6.size
    have hx1 : shapedN low b = none := by
      rcases hcase with ⟨k', _, e2⟩ | h
      · rw [hsh] at e2; cases e2
      · rw [h]; exact hsh
    refine ⟨.mk b n.label n.leaf (n.kids.eraseIdx i) m, nsDown (b, m) (b, m) ns, rfl, ?_, c1, ns_close B2 hsup hf (fun y o hy hh => c3 y o hy (fresh_apart hf hgb hgg y o hy hh).1 (fresh_apart hf hgb hgg y o hy hh).2) (by rw [size_setCell]; omega) ⟨by have := hf.new; omega, by rw [size_setCell]; omega⟩, belowAt B2 c2⟩
    rw [ed, nsDown_tail, hdel]
    show some (Nd.mk b n.label n.leaf (putKid n.kids i (shapedN low b)) m, l) = _
    rw [hx1]
    rfl
end Go.Proofs.YtjhgknagmiekeaaGreat.T
set_option linter.unusedVariables false
set_option linter.unusedSimpArgs false
namespace Go.Proofs.YtjhgknagmiekeaaGreat.T
open Go.RowKit Go.Lib Go.Proofs Go.Proofs.YtjhgknagmiekeaaGreatW.PrintWords
theorem remove_some : ∀ (N : Nat) (rest : ByteArray), rest.size ≤ N → rest.size < 4000000000000 → ∀ (n : Nd) (l : Lf) (w : World), NdAt w n → Ok n → Fits n 3999999999999 → findT n (L rest) = some l →
    Calls Tryz.prog 59 #[ptr n.b, .string rest] w (Removed w n rest l) := by
  intro N
  induction N with
  | zero =>
    intro rest hN hb n l w hn ho hfit hf
    exact remove_here n rest l w hn ho (by omega) (by rw [← find_rest0 (rest := rest) (by omega)]; exact hf)
  | succ N ih =>
    intro rest hN hb n l w hn ho hfit hf
    by_cases h0 : rest.size = 0
    · exact remove_here n rest l w hn ho h0 (by rw [← find_rest0 h0]; exact hf)
    · rcases down_cases ho h0 with ⟨_, h⟩ | ⟨k, hd, hkm, hpos, hle, hq, hfk⟩
      · rw [h] at hf; cases hf
      · rw [hfk] at hf
        exact remove_deep w n k rest l hn ho hfit h0 hb hd hkm hpos hle hq hf (ih _ (by simp only [ByteArray.size_extract]; omega) (by simp only [ByteArray.size_extract]; omega) k l w (hn.parts.choose_spec.2.2.2.mem k hkm) (ho.parts.2.2.get k hkm) (Fits.mono (by omega) k (hfit.parts.2.mem k hkm)) hf)
theorem leaf_at {w : World} {root : Nd} (h : Good root) (hn : NdAt w root) {k : ByteArray} {l : Lf} (hf : findT root (L k) = some l) : LfAt w (some l) := by
  have := findN_at w k.size k (Nat.le_refl _) root hn
  rw [find_eq h, hf] at this
  exact this
set_option maxHeartbeats 4000000 in
set_option maxRecDepth 100000 in
theorem treeDelete_none (w : World) (tb : Nat) (root : Nd) (size : Int) (k : ByteArray) (h : TrAt w tb root size) (hg : Fine root) (hk : k.size < 4000000000000) (hf : findT root (L k) = none) :
    Calls Tryz.prog 25 #[ptr tb, .string k] w fun e w' => e = .returned (.tuple #[ptr tb, .int .i64 0, .bool false]) ∧ w' = w := by
  have q1 := Aside0.mk (remove_none k.size k (Nat.le_refl _) hk root w h.root hg.ok hf)
  have c0 : w.cell? ⟨tb, 0, none⟩ = some (.pointer (some ⟨root.b, 0, none⟩)) := by rw [blk_cell h.blk]; rfl
  clear h hg hf
  unfold ptr at q1 ⊢
  go_enter Tryz.func25, Tryz.ntmps25
  go_wp2_with (go_at_call 59; refine q1.out.mono ?_; rintro e w1 ⟨rfl, rfl⟩)
  go_ret3
  exact ⟨rfl, rfl⟩
set_option maxHeartbeats 4000000 in
set_option maxRecDepth 100000 in
theorem treeDelete_some (w : World) (tb : Nat) (root : Nd) (size : Int) (k : ByteArray) (l : Lf) (v : Int) (h : TrAt w tb root size) (hg : Fine root) (hk : k.size < 4000000000000) (hs0 : 0 < size) (hs1 : size < 4000000000000) (hf : findT root (L k) = some l) (hv : l.val = .int .i64 v) :
    Calls Tryz.prog 25 #[ptr tb, .string k] w fun e w' => ∃ tb' m ns, e = .returned (.tuple #[ptr tb', .int .i64 v, .bool true]) ∧ TrAt w' tb' m (size - 1) ∧ delN root k ns = some (m, l) ∧ w.heap.size ≤ tb' ∧ SupOk w.heap.size w' ns ∧ Below w.heap.size w w' := by
  have q1 := Aside0.mk (remove_some k.size k (Nat.le_refl _) hk root l w h.root hg.ok hg.fits hf)
  have c0 : w.cell? ⟨tb, 0, none⟩ = some (.pointer (some ⟨root.b, 0, none⟩)) := by rw [blk_cell h.blk]; rfl
  have c1 : w.cell? ⟨tb, 1, none⟩ = some (.int .i64 size) := by rw [blk_cell h.blk]; rfl
  have hl := leaf_at hg.toGood h.root hf l rfl
  have cv : w.cell? ⟨l.b, 1, none⟩ = some (.int .i64 v) := by rw [blk_cell hl, hv]; rfl
  have H := Aside0.mk (And.intro h hs0)
  have ew : IntKind.i64.wrap (size - 1) = size - 1 := by rw [IntKind.wrap_i64]; omega
  have ew2 : wrap64 (size - 1) = size - 1 := by unfold wrap64; omega
  have HW := Aside0.mk (And.intro ew ew2)
  clear h hg hf hl hv ew ew2
  unfold ptr at q1 ⊢
  go_enter Tryz.func25, Tryz.ntmps25
  go_wp2_with (go_at_call 59; refine q1.out.mono ?_)
  rintro e w1 ⟨m, ns, rfl, hdel, hm, hsup, B1⟩
  have d1 := (Kept.of B1).cell c1
  have dv := (Kept.of B1).cell cv
  have H1 := Aside0.mk (And.intro hdel (And.intro hm (And.intro hsup B1)))
  clear hdel hm hsup B1 q1 c0 c1 cv
  unfold ptr
  have ew := HW.out.1
  go_wp2_with fail
  go_region_held3 (fun w' => w'.cell? ⟨tb, 1, none⟩ = some (.int .i64 size) ∧ w'.cell? ⟨l.b, 1, none⟩ = some (.int .i64 v))
    (first | exact ⟨d1, dv⟩ | exact ⟨cellA d1, cellA dv⟩)
    (fail)
  go_wp2_with fail
  go_ret3
  obtain ⟨hdel, hm, hsup, B1⟩ := H1.out
  have B := (B1.alloc B1.size (.cells #[.pointer (some ⟨m.b, 0, none⟩), .int .i64 (size - 1)] 108))
  have K : Kept w1 (w1.alloc (.cells #[.pointer (some ⟨m.b, 0, none⟩), .int .i64 (size - 1)] 108)).drew := fun x hx => Kept.of ((Below.refl _ w1).alloc (Nat.le_refl _) _) x hx
  refine ⟨w1.heap.size, m, ns, rfl, ⟨heap_alloc_new w1 _, NdAt.keep K _ hm⟩, hdel, B1.size, ⟨fun j => ?_, fun j => (hsup.mark j).keep K⟩, ⟨B.os, B.tape, B.output, B.size, B.block⟩⟩
  have h1 := hsup.new j
  have : (w1.alloc (.cells #[.pointer (some ⟨m.b, 0, none⟩), .int .i64 (size - 1)] 108)).drew.heap.size = w1.heap.size + 1 := by
    show (w1.alloc _).heap.size = _
    rw [World.size_alloc]
  omega
end Go.Proofs.YtjhgknagmiekeaaGreat.T
set_option linter.unusedVariables false
set_option linter.unusedSimpArgs false
namespace Go.Proofs.YtjhgknagmiekeaaGreat.T
open Go.RowKit Go.Lib Go.Proofs Go.Proofs.YtjhgknagmiekeaaGreatW.PrintWords
def nodeV (b : Nat) (path : ByteArray) : Value := .agg #[ptr b, .string path]
set_option maxHeartbeats 4000000 in
set_option maxRecDepth 100000 in
theorem rootC (w : World) (tb : Nat) (root : Nd) (size : Int) (h : TrAt w tb root size) : Calls Tryz.prog 74 #[ptr tb] w fun e w' => e = .returned (nodeV root.b ⟨#[]⟩) ∧ Below w.heap.size w w' := by
  have c0 : w.cell? ⟨tb, 0, none⟩ = some (.pointer (some ⟨root.b, 0, none⟩)) := by rw [blk_cell h.blk]; rfl
  have HB := Aside0.mk ((Below.refl w.heap.size w).alloc (Nat.le_refl _) (.cells #[.pointer (some ⟨root.b, 0, none⟩), .string ⟨#[]⟩] 161))
  have c1 : (w.alloc (.cells #[.pointer none, .string ⟨#[]⟩] 161)).cell? ⟨tb, 0, none⟩ = some (.pointer (some ⟨root.b, 0, none⟩)) := cellA c0
  clear h c0
  unfold nodeV ptr
  go_enter Tryz.func74, Tryz.ntmps74
  go_wp2_with fail
  exact bodyPost_ret (v := .agg #[.pointer (some ⟨root.b, 0, none⟩), .string ⟨#[]⟩]) (by simp [results, Tryz.results74, go_sem]) rfl ⟨rfl, HB.out⟩
set_option maxHeartbeats 4000000 in
set_option maxRecDepth 100000 in
theorem pathC (w : World) (b : Nat) (path : ByteArray) : Calls Tryz.prog 103 #[nodeV b path] w fun e w' => e = .returned (.string path) ∧ Below w.heap.size w w' := by
  have HB := Aside0.mk ((Below.refl w.heap.size w).alloc (Nat.le_refl _) (.cells #[.pointer (some ⟨b, 0, none⟩), .string path] 161))
  unfold nodeV ptr
  go_enter Tryz.func103, Tryz.ntmps103
  go_wp2_with fail
  go_ret
  exact ⟨rfl, HB.out⟩
def lookV : Option Lf → Value
  | none => .tuple #[.int .i64 0, .bool false]
  | some l => .tuple #[l.val, .bool true]
set_option maxHeartbeats 4000000 in
set_option maxRecDepth 100000 in
theorem valueC (w : World) (n : Nd) (path : ByteArray) (hn : NdAt w n) : Calls Tryz.prog 104 #[nodeV n.b path] w fun e w' => e = .returned (lookV n.leaf) ∧ Below w.heap.size w w' := by
  have HB := Aside0.mk ((Below.refl w.heap.size w).alloc (Nat.le_refl _) (.cells #[.pointer (some ⟨n.b, 0, none⟩), .string path] 161))
  have hn1 := NdAt.keep (Kept.of HB.out) n hn
  obtain ⟨kv, hb, hr, hl, hk⟩ := hn1.parts
  obtain ⟨lp, elp⟩ := leafPtr_form n.leaf
  have c1 : (w.alloc (.cells #[.pointer (some ⟨n.b, 0, none⟩), .string path] 161)).cell? ⟨n.b, 1, none⟩ = some (.pointer lp) := by rw [blk_cell hb, elp]; rfl
  have q := told (w.alloc (.cells #[.pointer (some ⟨n.b, 0, none⟩), .string path] 161)) n.leaf hl
  rw [elp] at q
  obtain ⟨a, b, c, ha, hla⟩ : ∃ a b c, toldV n.leaf = .tuple #[a, b, c] ∧ lookV n.leaf = .tuple #[b, c] := by cases n.leaf <;> exact ⟨_, _, _, rfl, rfl⟩
  rw [ha] at q
  rw [hla]
  have q1 := Aside0.mk q
  clear hn hn1 hb hr hl hk elp q ha hla
  unfold nodeV ptr
  go_enter Tryz.func104, Tryz.ntmps104
  go_wp2_with (go_at_call 41; refine q1.out.mono ?_; rintro e w1 ⟨rfl, Q1⟩; have HQ := Aside0.mk Q1; clear Q1)
  go_ret2
  exact ⟨rfl, HB.out.trans (HQ.out.below _)⟩
def NodeRow (w : World) (v : Value) (xs : List (Nat × ByteArray)) : Prop := ∃ A c, v = .slice A xs.length c ∧ ∀ i (h : i < xs.length), ∃ g, A = some ⟨g, 0, none⟩ ∧ w.cell? ⟨g, i * 2, none⟩ = some (ptr xs[i].1) ∧ w.cell? ⟨g, i * 2 + 1, none⟩ = some (.string xs[i].2)
theorem NodeRow.keep {w w' : World} {v : Value} {xs : List (Nat × ByteArray)} (h : NodeRow w v xs) (k : Kept w w') : NodeRow w' v xs := by
  obtain ⟨A, c, e, h⟩ := h
  refine ⟨A, c, e, fun i hi => ?_⟩
  obtain ⟨g, e1, h1, h2⟩ := h i hi
  exact ⟨g, e1, k.cell h1, k.cell h2⟩
def flatK (path : ByteArray) (ks : List Nd) : List Value := ks.flatMap fun k => [ptr k.b, .string (path ++ k.label)]
theorem flatK_snoc (path : ByteArray) (ks : List Nd) (k : Nd) : flatK path (ks ++ [k]) = flatK path ks ++ [ptr k.b, .string (path ++ k.label)] := by simp [flatK]
theorem flatK_get (path : ByteArray) : ∀ (ks : List Nd) (i : Nat) (h : i < ks.length), (flatK path ks)[i * 2]? = some (ptr ks[i].b) ∧ (flatK path ks)[i * 2 + 1]? = some (.string (path ++ ks[i].label))
  | k :: ks, 0, _ => by simp [flatK]
  | k :: ks, i + 1, h => by
    have ih := flatK_get path ks i (by simpa using h)
    have e : flatK path (k :: ks) = ptr k.b :: .string (path ++ k.label) :: flatK path ks := rfl
    rw [e, show (i + 1) * 2 = i * 2 + 1 + 1 by omega, show i * 2 + 1 + 1 + 1 = (i * 2 + 1) + 1 + 1 by omega]
    simpa using ih
theorem infoNode : (Tryz.prog.info? 161).map (fun i => (i.zero, i.size, i.bytes)) = some (some (.agg #[.pointer none, .string ⟨#[]⟩]), 2, 24) := by kernel_rfl
set_option maxHeartbeats 4000000 in
set_option maxRecDepth 100000 in
theorem kidsO (w : World) (n : Nd) (path : ByteArray) (hn : NdAt w n) (ho : Ok n) (hp : ∀ k ∈ n.kids, path.size + k.label.size < 9000000000000000000) :
    Calls Tryz.prog 105 #[nodeV n.b path] w fun e w' => ∃ v, e = .returned v ∧ w'.ownsRow (w.heap.size + 1) 161 2 v n.kids.length (flatK path n.kids) ∧ Below w.heap.size w w' := by
  obtain ⟨i0, hi, hz0, hz1, hz2⟩ := info_parts infoNode
  have hfew := ho.few
  have HB := Aside0.mk ((Below.refl w.heap.size w).alloc (Nat.le_refl _) (.cells #[.pointer (some ⟨n.b, 0, none⟩), .string path] 161))
  have hn1 := NdAt.keep (Kept.of HB.out) n hn
  obtain ⟨kv, hb, hr, hl, hk⟩ := hn1.parts
  obtain ⟨A, c, rfl, hrc⟩ := hr.open
  have elen : (ptrs n.kids).length = n.kids.length := by simp [ptrs]
  rw [elen] at hb
  obtain ⟨len, hlen⟩ : ∃ len, n.kids.length = len := ⟨_, rfl⟩
  have c2 : (w.alloc (.cells #[.pointer (some ⟨n.b, 0, none⟩), .string path] 161)).cell? ⟨n.b, 2, none⟩ = some (.slice A len c) := by rw [blk_cell hb, ← hlen]; rfl
  have HR := Aside0.mk (And.intro hrc (And.intro hk (And.intro hp hlen)))
  have hbox := heap_alloc_new w (.cells #[.pointer (some ⟨n.b, 0, none⟩), .string path] 161)
  have HX := Aside0.mk hbox
  have hl256 : len ≤ 256 := by omega
  have HI := Aside0.mk (And.intro hi (And.intro hz0 (And.intro hz1 hz2)))
  clear hn hn1 ho hp hb hr hl hk hrc elen hfew hbox hi hz0 hz1 hz2
  unfold nodeV ptr
  go_enter Tryz.func105, Tryz.ntmps105
  go_wp2_with fail
  go_loopg [3, 5, 12] (len + 1) (fun kq v3 v5 v12 w' => ∃ i : Nat, v12 = .int .i64 (i : Int) ∧ Aside0 (i + kq = len + 1 ∧ i ≤ len) ∧ Aside0 (w'.ownsRow (w.heap.size + 1) 161 2 v3 i (flatK path (n.kids.take i))) ∧ Aside0 (Below (w.heap.size + 1) (w.alloc (.cells #[.pointer (some ⟨n.b, 0, none⟩), .string path] 161)) w'))
  case atStart => exact ⟨0, rfl, ⟨by omega⟩, ⟨World.ownsRow_nil _ _ _ _⟩, ⟨Below.refl _ _⟩⟩
  case round =>
    obtain ⟨i, rfl, HQ, HO, HW⟩ := hrel
    by_cases hlt : i < len
    · have hi' : i < n.kids.length := by rw [HR.out.2.2.2]; exact hlt
      obtain ⟨ad, eA, hca⟩ := HR.out.1 i (by simpa [ptrs] using hi')
      obtain ⟨k, ek⟩ : ∃ k, n.kids[i] = k := ⟨_, rfl⟩
      have hkm : k ∈ n.kids := by rw [← ek]; exact List.getElem_mem _
      have epk : (ptrs n.kids)[i]'(by simpa [ptrs] using hi') = ptr k.b := by simp [ptrs, ek]
      rw [epk] at hca
      obtain ⟨kv2, hb2, _⟩ := (HR.out.2.1.mem k hkm).parts
      have KW : Kept (w.alloc (.cells #[.pointer (some ⟨n.b, 0, none⟩), .string path] 161)) wr := Kept.of (by have := HW.out; rwa [World.size_alloc])
      have d0 : wr.cell? ⟨k.b, 0, none⟩ = some (.string k.label) := by rw [blk_cell (KW.at hb2)]; rfl
      have d1 : wr.cell? (ad.add i) = some (.pointer (some ⟨k.b, 0, none⟩)) := KW.cell hca
      have e1 : wr.cell? ⟨w.heap.size, 1, none⟩ = some (.string path) := by rw [blk_cell (KW.at HX.out)]; rfl
      have hadd := fun w1 : World => run_string_add_sum (P := Tryz.prog) w1 path k.label (by have := HR.out.2.2.1 k hkm; omega)
      have HK := Aside0.mk (show n.kids[i]? = some k by rw [List.getElem?_eq_getElem hi', ek])
      have hltI : (i : Int) < (len : Int) := by omega
      have ew : IntKind.i64.wrap ((i : Int) + 1) = (i : Int) + 1 := by rw [IntKind.wrap_i64]; omega
      subst eA
      clear hca ek hkm epk hb2 KW hi'
      go_wp2_with fail
      have h1c : Aside0 (∀ u ∈ [Value.pointer (some ⟨k.b, 0, none⟩), Value.string (path ++ k.label)], u.oneCell' = true) := ⟨by simp [Value.oneCell']⟩
      have HO2 : Aside0 (wr.drew.ownsRow (w.heap.size + 1) 161 2 u3 i (flatK path (n.kids.take i))) := ⟨HO.out⟩
      have HW2 : Aside0 (Below (w.heap.size + 1) (w.alloc (.cells #[.pointer (some ⟨n.b, 0, none⟩), .string path] 161)) wr.drew) := ⟨⟨HW.out.os, HW.out.tape, HW.out.output, HW.out.size, HW.out.block⟩⟩
      have hbs : Aside0 (w.heap.size + 1 ≤ wr.drew.heap.size) := ⟨by have := HW.out.size; rw [World.size_alloc] at this; exact this⟩
      have hbl : Aside0 ((i + 1) * 24 ≤ 140737488355328) := ⟨by omega⟩
      go_region_law (refine step_append_cells (w0 := w.alloc (.cells #[.pointer (some ⟨n.b, 0, none⟩), .string path] 161)) (W := wr.drew) (w.heap.size + 1) rfl (.tmp 16) (.tmp 26) 190 161 (.agg #[.pointer none, .string ⟨#[]⟩]) 2 24 rfl Tryz.underlying190 infoNode rfl (by decide) (by decide) u3 i _ [.pointer (some ⟨k.b, 0, none⟩), .string (path ++ k.label)] (by simp [Act.eval, Act.put]) (by simp [Act.eval, Act.put]) rfl h1c.out HO2.out HW2.out hbs.out hbl.out ?_; intro v1 w2 o1 b1 g1 at1; have H1 := Aside0.mk (And.intro o1 b1); clear o1 b1 g1 at1)
      all_goals
        go_wp2_with fail
        go_roundg (len - i)
        case measure => have := HQ.out; omega
        case rel =>
          refine ⟨i + 1, by simp, ⟨by have := HQ.out; omega⟩, ⟨?_⟩, ⟨H1.out.2⟩⟩
          have e : n.kids.take (i + 1) = n.kids.take i ++ [k] := by
            rw [List.take_add_one, HK.out]; rfl
          rw [e, flatK_snoc]
          exact H1.out.1
    · have hin : i = len := by have := HQ.out; omega
      subst hin
      go_wp2_with fail
      go_ret
      have e : n.kids.take i = n.kids := List.take_of_length_le (by rw [HR.out.2.2.2]; exact Nat.le_refl _)
      have ho := HO.out
      rw [e] at ho
      have hB := HW.out
      have hl := HR.out.2.2.2
      rw [← hl] at ho
      exact ⟨_, rfl, ho, HB.out.trans ⟨hB.os, hB.tape, hB.output, hB.size, fun x hx => hB.block x (by omega)⟩⟩
end Go.Proofs.YtjhgknagmiekeaaGreat.T
set_option linter.unusedVariables false
set_option linter.unusedSimpArgs false
namespace Go.Proofs.YtjhgknagmiekeaaGreat.T
def nodeT (n : Nd) (r : List UInt8) : Option Nd :=
  if h0 : r = [] then some n
  else match kidT n.kids (hd r) with
    | none => none
    | some k => if h : 0 < k.label.size ∧ L k.label <+: r then nodeT k (r.drop k.label.size) else none
termination_by r.length
decreasing_by
  have : 0 < r.length := by cases r with | nil => exact absurd rfl h0 | cons a b => simp
  rw [List.length_drop]
  omega
theorem nodeT_nil (n : Nd) : nodeT n [] = some n := by rw [nodeT, dif_pos rfl]
def beneath (r : List UInt8) (k : Nd) : Option Nd := if 0 < k.label.size ∧ L k.label <+: r then nodeT k (r.drop k.label.size) else none
theorem nodeT_eq (n : Nd) (r : List UInt8) (h : r ≠ []) : nodeT n r = (kidT n.kids (hd r)).bind (beneath r) := by
  rw [nodeT, dif_neg h]
  cases kidT n.kids (hd r) with
  | none => rfl
  | some k =>
    simp only [Option.bind_some, beneath]
    by_cases h2 : 0 < k.label.size ∧ L k.label <+: r
    · rw [dif_pos h2, if_pos h2]
    · rw [dif_neg h2, if_neg h2]
theorem nodeT_kid {n : Nd} (ho : Ok n) {k : Nd} (hk : k ∈ n.kids) (r : List UInt8) : nodeT n (L k.label ++ r) = nodeT k r := by
  have hpos := ho.parts.2.1 k hk
  have hne := L_ne hpos
  rw [nodeT_eq _ _ (by simp [hne]), hd_append hne]
  have hf : hd (L k.label) = fb k := (fb_hd k).symm
  rw [hf, kidT_of_mem ho.parts.1 hk]
  simp only [Option.bind_some, beneath]
  rw [if_pos ⟨hpos, List.prefix_append _ _⟩]
  congr 1
  rw [← L_len, List.drop_left]
theorem nodeT_of {n : Nd} (ho : Ok n) {r : List UInt8} {x : Nd} (h : nodeT n r = some x) : (r = [] ∧ x = n) ∨ ∃ k ∈ n.kids, ∃ t, r = L k.label ++ t ∧ nodeT k t = some x := by
  by_cases hr : r = []
  · subst hr; rw [nodeT_nil] at h; cases h; exact .inl ⟨rfl, rfl⟩
  · rw [nodeT_eq _ _ hr] at h
    cases e : kidT n.kids (hd r) with
    | none => rw [e] at h; cases h
    | some k =>
      rw [e] at h
      simp only [Option.bind_some, beneath] at h
      split at h
      · rename_i hp
        obtain ⟨t, ht⟩ := hp.2
        refine .inr ⟨k, (kidT_some e).1, t, ht.symm, ?_⟩
        rw [← ht, ← L_len, List.drop_left] at h
        exact h
      · cases h
theorem findT_node : ∀ (N : Nat) (n : Nd) (r : List UInt8), r.length ≤ N → findT n r = (nodeT n r).bind Nd.leaf := by
  intro N
  induction N with
  | zero =>
    intro n r h
    have : r = [] := List.length_eq_zero_iff.1 (by omega)
    subst this
    rw [findT_nil, nodeT_nil]; rfl
  | succ N ih =>
    intro n r h
    by_cases hr : r = []
    · subst hr; rw [findT_nil, nodeT_nil]; rfl
    · rw [findT_eq _ _ hr, nodeT_eq _ _ hr]
      cases e : kidT n.kids (hd r) with
      | none => rfl
      | some k =>
        simp only [Option.bind_some, below, beneath]
        by_cases hp : 0 < k.label.size ∧ L k.label <+: r
        · rw [if_pos hp, if_pos hp]
          exact ih k _ (by rw [List.length_drop]; omega)
        · rw [if_neg hp, if_neg hp]; rfl
end Go.Proofs.YtjhgknagmiekeaaGreat.T
set_option linter.unusedVariables false
set_option linter.unusedSimpArgs false
namespace Go.Proofs.YtjhgknagmiekeaaGreat.T
mutual
def Sim : Nd → Nd → Prop
  | .mk _ label leaf kids _, b => label = b.label ∧ leaf.map Lf.val = b.leaf.map Lf.val ∧ Sims kids b.kids
def Sims : List Nd → List Nd → Prop
  | [], ms => ms = []
  | k :: ks, ms => ∃ m r, ms = m :: r ∧ Sim k m ∧ Sims ks r
end
theorem Sim.parts {a b : Nd} (h : Sim a b) : a.label = b.label ∧ a.leaf.map Lf.val = b.leaf.map Lf.val ∧ Sims a.kids b.kids := by
  cases a; unfold Sim at h; exact h
theorem Sims.get : ∀ {ks ms : List Nd}, Sims ks ms → ks.length = ms.length ∧ ∀ i (hi : i < ks.length) (hj : i < ms.length), Sim ks[i] ms[i]
  | [], ms, h => by unfold Sims at h; subst h; exact ⟨rfl, fun i hi => by simp at hi⟩
  | k :: ks, ms, h => by
    unfold Sims at h
    obtain ⟨m, r, rfl, h1, h2⟩ := h
    have ih := Sims.get h2
    refine ⟨by simp [ih.1], fun i hi hj => ?_⟩
    cases i with
    | zero => exact h1
    | succ i => exact ih.2 i (by simpa using hi) (by simpa using hj)
mutual
def nsz : Nd → Nat
  | .mk _ _ _ kids _ => nszs kids + 1
def nszs : List Nd → Nat
  | [] => 0
  | n :: r => nsz n + nszs r
end
theorem nszs_mem : ∀ {ks : List Nd} {k : Nd}, k ∈ ks → nsz k ≤ nszs ks
  | n :: r, k, h => by
    unfold nszs
    rcases List.mem_cons.1 h with e | e
    · rw [e]; omega
    · have := nszs_mem e; omega
theorem nsz_kid {n k : Nd} (h : k ∈ n.kids) : nsz k < nsz n := by
  cases n with
  | mk b l f ks m =>
    have h1 : nsz (.mk b l f ks m) = nszs ks + 1 := by rw [nsz]
    have h2 : nsz k ≤ nszs ks := nszs_mem h
    omega
end Go.Proofs.YtjhgknagmiekeaaGreat.T
set_option linter.unusedVariables false
set_option linter.unusedSimpArgs false
namespace Go.Proofs.YtjhgknagmiekeaaGreat.T
open Go.RowKit Go.Lib Go.Proofs Go.Proofs.YtjhgknagmiekeaaGreatW.PrintWords
def Strs (w : World) (A : Option Addr) (l : List ByteArray) : Prop := ∀ i (h : i < l.length), ∃ ad, A = some ad ∧ w.cell? (ad.add i) = some (.string l[i])
theorem Strs.keep {w w' : World} {A : Option Addr} {l : List ByteArray} (h : Strs w A l) (k : Kept w w') : Strs w' A l := fun i hi => by
  obtain ⟨ad, h1, h2⟩ := h i hi
  exact ⟨ad, h1, k.cell h2⟩
def IntVals (root : Nd) : Prop := ∀ r l, findT root r = some l → ∃ v : Int, l.val = .int .i64 v
theorem vals_empty (b : Nat) (m : Value) : IntVals (emptyN b m) := fun r l h => by
  by_cases e : r = []
  · subst e; rw [findT_nil] at h; cases h
  · rw [findT_eq _ _ e] at h; cases h
theorem vals_ins {root : Nd} (hg : Good root) (h : IntVals root) (k : ByteArray) (l : Lf) (v : Int) (hl : l.val = .int .i64 v) (ns : Sup) : IntVals (insN root k l ns) := fun r l' e => by
  rw [find_ins k.size k (Nat.le_refl _) root hg.ok l ns r] at e
  by_cases er : r = L k
  · rw [if_pos er] at e; cases e; exact ⟨v, hl⟩
  · rw [if_neg er] at e; exact h r l' e
structure IntTree (w : World) (tb : Nat) (root : Nd) (size : Int) : Prop where
  at_ : TrAt w tb root size
  good : Good root
  vals : IntVals root
end Go.Proofs.YtjhgknagmiekeaaGreat.T
set_option linter.unusedVariables false
set_option linter.unusedSimpArgs false
namespace Go.Proofs.YtjhgknagmiekeaaGreat.T
def valT (n : Nd) (r : List UInt8) : Option Value := (findT n r).map Lf.val
def gtB (k : List UInt8) (e : Ent) : Bool := decide (k < e.1)
theorem gtB_iff {k : List UInt8} {e : Ent} : gtB k e = true ↔ k < e.1 := by unfold gtB; simp
theorem all_split {root : Nd} (h : Good root) (k : List UInt8) :
    All root = (All root).filter (fun e => decide (e.1 < k)) ++ ((findT root k).toList.map fun l => (k, l)) ++ (All root).filter (gtB k) := by
  refine rise_ext (all_rise h) ?_ (fun x => ?_)
  · have hr := all_rise h
    rw [List.append_assoc, List.pairwise_append, List.pairwise_append]
    refine ⟨hr.filter _, ⟨?_, hr.filter _, ?_⟩, ?_⟩
    · cases findT root k <;> simp
    · intro a ha c hc
      obtain ⟨l, _, e⟩ := List.mem_map.1 ha
      rw [← e]
      exact gtB_iff.1 (List.mem_filter.1 hc).2
    · intro a ha c hc
      have h1 : a.1 < k := of_decide_eq_true (List.mem_filter.1 ha).2
      rcases List.mem_append.1 hc with e | e
      · obtain ⟨l, _, e⟩ := List.mem_map.1 e
        rw [← e]; exact h1
      · exact blt_trans h1 (gtB_iff.1 (List.mem_filter.1 e).2)
  · obtain ⟨q, l'⟩ := x
    rw [List.mem_append, List.mem_append, List.mem_filter, List.mem_filter, mem_all h, List.mem_map]
    simp only [decide_eq_true_eq, gtB_iff]
    constructor
    · intro h1
      rcases blt_total q k with h2 | h2 | h2
      · exact .inl (.inl ⟨h1, h2⟩)
      · subst h2; exact .inl (.inr ⟨l', by rw [h1]; simp, rfl⟩)
      · exact .inr ⟨h1, h2⟩
    · rintro ((⟨h1, _⟩ | ⟨l, h1, h2⟩) | ⟨h1, _⟩)
      · exact h1
      · cases h2; exact Option.mem_toList.1 h1
      · exact h1
theorem all_ins2 {root : Nd} (h : Good root) (k : ByteArray) (l : Lf) (ns : Sup) (hg : Good (insN root k l ns)) :
    All (insN root k l ns) = (All root).filter (fun e => decide (e.1 < L k)) ++ (L k, l) :: (All root).filter (gtB (L k)) := by
  rw [all_ins h k l ns hg]
  congr 2
theorem len_ins {root : Nd} (h : Good root) (k : ByteArray) (l : Lf) (ns : Sup) (hg : Good (insN root k l ns)) :
    ((All (insN root k l ns)).length : Int) = (All root).length + (if findT root (L k) = none then 1 else 0) := by
  have e1 := congrArg List.length (all_ins2 h k l ns hg)
  have e2 := congrArg List.length (all_split h (L k))
  simp only [List.length_append, List.length_cons, List.length_map] at e1 e2
  cases e : findT root (L k) with
  | none => rw [e] at e2; simp at e2 ⊢; omega
  | some l' => rw [e] at e2; simp at e2 ⊢; omega
theorem len_del {root m : Nd} (h : Fine root) (k : ByteArray) (l : Lf) (ns : Sup) (hd : delN root k ns = some (m, l)) : ((All m).length : Int) = (All root).length - 1 := by
  obtain ⟨hm, hf, _⟩ := fine_del h k l ns hd
  have e1 := all_del h k l ns hd
  have e2 := all_split h.toGood (L k)
  rw [hf] at e2
  have e3 : All m = (All root).filter (fun e => decide (e.1 < L k)) ++ (All root).filter (gtB (L k)) := by
    refine rise_ext (all_rise hm.toGood) ?_ (fun x => ?_)
    · have hr := all_rise h.toGood
      rw [List.pairwise_append]
      exact ⟨hr.filter _, hr.filter _, fun a ha c hc => blt_trans (of_decide_eq_true (List.mem_filter.1 ha).2 : a.1 < L k) (gtB_iff.1 (List.mem_filter.1 hc).2)⟩
    · rw [e1, List.mem_append, List.mem_filter, List.mem_filter, List.mem_filter]
      simp only [decide_eq_true_eq, gtB_iff]
      constructor
      · rintro ⟨h1, h2⟩
        rcases blt_total x.1 (L k) with h3 | h3 | h3
        · exact .inl ⟨h1, h3⟩
        · exact absurd h3 h2
        · exact .inr ⟨h1, h3⟩
      · rintro (⟨h1, h2⟩ | ⟨h1, h2⟩)
        · exact ⟨h1, fun e => by rw [e] at h2; exact blt_irrefl _ h2⟩
        · exact ⟨h1, fun e => by rw [e] at h2; exact blt_irrefl _ h2⟩
  have e4 := congrArg List.length e3
  have e5 := congrArg List.length e2
  simp only [List.length_append, List.length_cons, List.length_map] at e4 e5
  simp at e5
  omega
theorem all_empty (b : Nat) (m : Value) : All (emptyN b m) = [] := by
  show ents [] (emptyN b m) = []
  rw [ents_eq]
  simp [emptyN, Nd.leaf, Nd.kids, entss]
theorem valT_ins {root : Nd} (h : Good root) (k : ByteArray) (l : Lf) (ns : Sup) (r : List UInt8) : valT (insN root k l ns) r = if r = L k then some l.val else valT root r := by
  unfold valT
  rw [find_ins k.size k (Nat.le_refl _) root h.ok l ns r]
  split <;> rfl
theorem valT_del {root m : Nd} (h : Fine root) (k : ByteArray) (l : Lf) (ns : Sup) (hd : delN root k ns = some (m, l)) (r : List UInt8) : valT m r = if r = L k then none else valT root r := by
  unfold valT
  rw [(fine_del h k l ns hd).2.2 r]
  split <;> rfl
theorem valT_empty (b : Nat) (m : Value) (r : List UInt8) : valT (emptyN b m) r = none := by
  unfold valT
  by_cases e : r = []
  · subst e; rw [findT_nil]; rfl
  · rw [findT_eq _ _ e]; rfl
end Go.Proofs.YtjhgknagmiekeaaGreat.T
set_option linter.unusedVariables false
set_option linter.unusedSimpArgs false
namespace Go.Proofs.YtjhgknagmiekeaaGreat.T
open Go.RowKit Go.Lib Go.Proofs Go.Proofs.YtjhgknagmiekeaaGreatW.PrintWords
structure Tr (w : World) (tb : Nat) (root : Nd) : Prop where
  at_ : TrAt w tb root ((All root).length : Int)
  fine : Fine root
  vals : IntVals root
theorem Tr.keep {w w' : World} {tb : Nat} {root : Nd} (h : Tr w tb root) (k : Kept w w') : Tr w' tb root := ⟨h.at_.keep k, h.fine, h.vals⟩
def gotV : Option Value → Value
  | none => .tuple #[.int .i64 0, .bool false]
  | some v => .tuple #[v, .bool true]
def wasV (tb : Nat) : Option Value → Value
  | none => .tuple #[ptr tb, .int .i64 0, .bool false]
  | some v => .tuple #[ptr tb, v, .bool true]
theorem getC (w : World) (tb : Nat) (root : Nd) (h : Tr w tb root) (k : ByteArray) (hk : k.size < 4000000000000) : Calls Tryz.prog 15 #[ptr tb, .string k] w fun e w' => e = .returned (gotV (valT root (L k))) ∧ Below w.heap.size w w' := by
  refine (treeGet w tb root _ k h.at_ h.fine.ok h.fine.sm h.fine.top hk).mono ?_
  rintro e w' ⟨rfl, hB⟩
  refine ⟨?_, hB⟩
  rw [seek_eq h.fine.toGood]
  unfold valT
  cases findT root (L k) <;> rfl
end Go.Proofs.YtjhgknagmiekeaaGreat.T
set_option linter.unusedVariables false
set_option linter.unusedSimpArgs false
namespace Go.Proofs.YtjhgknagmiekeaaGreat.G
open Go.RowKit Go.Lib Go.Proofs Go.Conc
open Go.Proofs.YtjhgknagmiekeaaGreatW.PrintWords hiding Kept
open Go.Proofs.YtjhgknagmiekeaaGreat.T (Nd NdAt NdsAt LfAt Lf Row ptr ptrs Tr Fine)
def FarP (p : TypeId → Bool) (w w' : World) : Prop := ∀ (b : Nat) (cs : Array Value) (t : TypeId) (fr : Nat × Nat), w.heap[b]? = some (.cells cs t fr) → p t = false → w'.heap[b]? = some (.cells cs t fr)
theorem FarP.of {p : TypeId → Bool} {w w' : World} (h : Below w.heap.size w w') : FarP p w w' := fun b cs t fr hb _ => (h.block b (Array.getElem?_eq_some_iff.1 hb).1).trans hb
theorem FarP.trans {p : TypeId → Bool} {a b c : World} (h : FarP p a b) (k : FarP p b c) : FarP p a c := fun i cs t fr hi ht => k i cs t fr (h i cs t fr hi ht) ht
section
variable {p : TypeId → Bool}
theorem FarP.row (h58 : p 106 = false) {w w' : World} (h : FarP p w w') {v : Value} {ps : List Value} (hr : Row w v ps) : Row w' v ps := by
  rcases hr with hr | ⟨ad, c, hv, hr⟩
  · exact .inl hr
  · refine .inr ⟨ad, c, hv, fun i hi => ?_⟩
    obtain ⟨h1, cs, fr, h2⟩ := hr i hi
    have h3 := h _ cs 106 fr h2 h58
    exact ⟨(World.cell?_of_block (a := ad.add i) (by rw [add_block]; exact h3.trans h2.symm)).trans h1, cs, fr, h3⟩
theorem FarP.leaf (h127 : p 134 = false) {w w' : World} (h : FarP p w w') {o : Option Lf} (hl : LfAt w o) : LfAt w' o := fun l e => h _ _ _ _ (hl l e) h127
mutual
theorem FarP.nd (h58 : p 106 = false) (h127 : p 134 = false) (h117 : p 145 = false) {w w' : World} (h : FarP p w w') : ∀ t : Nd, NdAt w t → NdAt w' t
  | .mk b label leaf kids mark, hn => by
    unfold NdAt at hn ⊢
    obtain ⟨⟨kv, h1, h2⟩, h3, h4, h5⟩ := hn
    exact ⟨⟨kv, h _ _ _ _ h1 h117, FarP.row h58 h h2⟩, FarP.leaf h127 h h3, FarP.nds h58 h127 h117 h kids h4, h5⟩
theorem FarP.nds (h58 : p 106 = false) (h127 : p 134 = false) (h117 : p 145 = false) {w w' : World} (h : FarP p w w') : ∀ ks : List Nd, NdsAt w ks → NdsAt w' ks
  | [], _ => by unfold NdsAt; trivial
  | n :: r, hn => by
    unfold NdsAt at hn ⊢
    exact ⟨FarP.nd h58 h127 h117 h n hn.1, FarP.nds h58 h127 h117 h r hn.2⟩
end
theorem FarP.tr (h58 : p 106 = false) (h127 : p 134 = false) (h117 : p 145 = false) (h124 : p 108 = false) {w w' : World} (h : FarP p w w') {tb : Nat} {root : Nd} (ht : Tr w tb root) : Tr w' tb root := ⟨⟨h _ _ _ _ ht.at_.blk h124, FarP.nd h58 h127 h117 h root ht.at_.root⟩, ht.fine, ht.vals⟩
end
mutual
/-- the marks of a tree -/
def mks : Nd → List Value
  | .mk _ _ leaf kids mark => mark :: ((leaf.map (fun l => l.mark)).toList ++ mkss kids)
def mkss : List Nd → List Value
  | [] => []
  | n :: r => mks n ++ mkss r
end
theorem mks_eq (n : Nd) : mks n = n.mark :: ((n.leaf.map (fun l => l.mark)).toList ++ mkss n.kids) := by cases n; rfl
theorem mkss_mem {m : Value} : ∀ {ks : List Nd}, m ∈ mkss ks ↔ ∃ k ∈ ks, m ∈ mks k
  | [] => by simp [mkss]
  | n :: r => by
    rw [mkss, List.mem_append, mkss_mem (ks := r)]
    simp
theorem mks_mark (n : Nd) : n.mark ∈ mks n := by rw [mks_eq]; exact List.mem_cons_self
theorem mks_leaf {n : Nd} {l : Lf} (h : n.leaf = some l) : l.mark ∈ mks n := by rw [mks_eq, h]; simp
theorem mks_kid {n k : Nd} (h : k ∈ n.kids) {m : Value} (hm : m ∈ mks k) : m ∈ mks n := by
  rw [mks_eq]
  exact List.mem_cons_of_mem _ (List.mem_append_right _ (mkss_mem.2 ⟨k, h, hm⟩))
def MkAt (w : World) (m : Value) : Prop := ∃ c d, m = ptr (c + 1) ∧ WatchAt w (c + 1) c d
def Mks (w : World) (n : Nd) : Prop := ∀ m ∈ mks n, MkAt w m
theorem Mks.kid {w : World} {n : Nd} (h : Mks w n) : ∀ k ∈ n.kids, Mks w k := fun k hk m hm => h m (mks_kid hk hm)
def chOf : Value → Nat
  | .pointer (some a) => a.block - 1
  | _ => 0
theorem chOf_ptr (c : Nat) : chOf (ptr (c + 1)) = c := rfl
def shutAt (w : World) (c : Nat) : Bool := match w.heap[c]? with
  | some (.chan _ _ d _ _ _) => d
  | _ => false
theorem shutAt_of {w : World} {b c : Nat} {d : Bool} (h : WatchAt w b c d) : shutAt w c = d := by unfold shutAt; rw [h.ch]
structure Shot (w0 w : World) (S : Nat → Bool) : Prop where
  watch : ∀ c d, WatchAt w0 (c + 1) c d → WatchAt w (c + 1) c (d || S c)
  far : ∀ k, k < w0.heap.size → (∀ c d, WatchAt w0 (c + 1) c d → S c = true → k ≠ c + 1 ∧ k ≠ c) → w.heap[k]? = w0.heap[k]?
  size : w0.heap.size ≤ w.heap.size
  below : ∀ B, B ≤ w0.heap.size → (∀ c d, WatchAt w0 (c + 1) c d → S c = true → B ≤ c) → Below B w0 w
theorem Shot.refl (w : World) : Shot w w (fun _ => false) := ⟨fun c d h => by rw [Bool.or_false]; exact h, fun k _ _ => rfl, Nat.le_refl _, fun B _ _ => Below.refl _ _⟩
theorem Shot.farP {w0 w : World} {S : Nat → Bool} (h : Shot w0 w S) : FarP (fun t => t == 153) w0 w := fun b cs t fr hb ht => by
  refine (h.far b (Array.getElem?_eq_some_iff.1 hb).1 (fun c d hw _ => ⟨fun e => ?_, fun e => ?_⟩)).trans hb
  · rw [e, hw.obj] at hb
    injection hb with e1
    injection e1 with _ e2 _
    rw [← e2] at ht
    cases ht
  · rw [e, hw.ch] at hb
    cases hb
theorem WatchAt.move {w w' : World} {c : Nat} {d : Bool} (h : WatchAt w (c + 1) c d) (h1 : w'.heap[c + 1]? = w.heap[c + 1]?) (h2 : w'.heap[c]? = w.heap[c]?) : WatchAt w' (c + 1) c d := ⟨h1.trans h.obj, h2.trans h.ch⟩
theorem WatchAt.apart {w : World} {c c' : Nat} {d d' : Bool} (h : WatchAt w (c + 1) c d) (h' : WatchAt w (c' + 1) c' d') (hne : c ≠ c') : c + 1 ≠ c' ∧ c ≠ c' + 1 := by
  refine ⟨fun e => ?_, fun e => ?_⟩
  · have h1 := h.obj
    rw [e, h'.ch] at h1
    cases h1
  · have h1 := h'.obj
    rw [← e, h.ch] at h1
    cases h1
theorem Shot.fire {w0 w w1 : World} {S : Nat → Bool} (h : Shot w0 w S) {c : Nat} {d : Bool} (hw : WatchAt w0 (c + 1) c d) (hf : FiredOf w w1 (c + 1) c) : Shot w0 w1 (fun x => S x || x == c) := by
  have hwc := h.watch c d hw
  refine ⟨fun c' d' hw' => ?_, fun k hk hs => ?_, Nat.le_trans h.size hf.size, fun B hB hs => ?_⟩
  · by_cases e : c' = c
    · subst e
      have : (d' || (S c' || c' == c')) = true := by simp
      rw [this]
      exact hf.at_
    · have hw2 := h.watch c' d' hw'
      have hap := hw2.apart hwc e
      have : (d' || (S c' || c' == c)) = (d' || S c') := by
        have : (c' == c) = false := beq_eq_false_iff_ne.mpr e
        rw [this, Bool.or_false]
      rw [this]
      exact hw2.move (hf.far _ (Array.getElem?_eq_some_iff.1 hw2.obj).1 (by omega) hap.1) (hf.far _ (Array.getElem?_eq_some_iff.1 hw2.ch).1 hap.2 e)
  · have hc := hs c d hw (by simp)
    exact (hf.far k (Nat.lt_of_lt_of_le hk h.size) hc.1 hc.2).trans (h.far k hk (fun c' d' hw' hS => hs c' d' hw' (by simp [hS])))
  · have hc := hs c d hw (by simp)
    exact (h.below B hB (fun c' d' hw' hS => hs c' d' hw' (by simp [hS]))).trans (hf.below B (by omega) hc (Nat.le_trans hB h.size))
def shootC (w0 : World) (s : (Nat → Bool) × Int) (c : Nat) : (Nat → Bool) × Int := (fun x => s.1 x || x == c, if (shutAt w0 c || s.1 c) = true then s.2 else wrap64 (s.2 + 1))
def marksOn (k : ByteArray) (n : Nd) (a : Nat) : List Nat := chOf n.mark :: (if a = k.size then (n.leaf.map (fun l => chOf l.mark)).toList else [])
def stepW (w0 : World) (k : ByteArray) (s : (Nat → Bool) × Int) (n : Nd) (a : Nat) : (Nat → Bool) × Int := (marksOn k n a).foldl (shootC w0) s
attribute [local go_sem] Oper.semAt_some
set_option maxRecDepth 100000 in
set_option maxHeartbeats 2000000 in
theorem call105 (w : World) (c cb : Nat) (n : Int) (d : Bool) (h : WatchAt w (c + 1) c d) (hb : w.heap[cb]? = some (.cells #[.int .i64 n] 3 (0, 0))) (h1 : cb ≠ c + 1) (h2 : cb ≠ c) :
    Calls Tryz.prog 100 #[ptr (c + 1), ptr cb] w fun e w' => e = .returned (.tuple #[]) ∧ ∃ w1, FiredOf w w1 (c + 1) c ∧ ((d = true ∧ w' = w1) ∨ (d = false ∧ w' = w1.setCell ⟨cb, 0, none⟩ (.int .i64 (wrap64 (n + 1))))) := by
  have q := Aside0.mk (fireC w (c + 1) c d h)
  have HB := Aside0.mk (And.intro hb (And.intro h1 h2))
  clear h hb h1 h2
  unfold ptr
  go_enter Tryz.func100, Tryz.ntmps100
  go_wp2_with fail
  go_at_call 101
  refine q.out.mono ?_
  rintro e w1 ⟨rfl, hf⟩
  have hb1 := (hf.far cb (Array.getElem?_eq_some_iff.1 HB.out.1).1 HB.out.2.1 HB.out.2.2).trans HB.out.1
  have HF := Aside0.mk hf
  clear hf q
  cases d with
  | true =>
    clear hb1
    go_wp2_with fail
    refine bodyPost_end (results_none rfl _ _ _) rfl ?_
    exact ⟨rfl, HF.out⟩
  | false =>
    have c0 : w1.cell? ⟨cb, 0, none⟩ = some (.int .i64 n) := by rw [blk_cell hb1]; rfl
    have f0 : w1.frozen? ⟨cb, 0, none⟩ = false := blk_frozen hb1 0
    clear hb1
    go_wp2_with fail
    refine bodyPost_end (results_none rfl _ _ _) rfl ?_
    exact ⟨rfl, w1, HF.out, rfl⟩
end Go.Proofs.YtjhgknagmiekeaaGreat.G
set_option linter.unusedVariables false
set_option linter.unusedSimpArgs false
namespace Go.Proofs.YtjhgknagmiekeaaGreat.G
open Go.RowKit Go.Lib Go.Proofs Go.Conc
open Go.Proofs.YtjhgknagmiekeaaGreatW.PrintWords hiding Kept
open Go.Proofs.YtjhgknagmiekeaaGreatW.PrintLast
open Go.Proofs.YtjhgknagmiekeaaGreat.T (Nd NdAt NdsAt LfAt Lf Row ptr ptrs Tr Fine leafPtr L)
structure InvF (wB : World) (k : ByteArray) (cb fb kb : Nat) (s : (Nat → Bool) × Int) (w : World) : Prop where
  shot : Shot wB w s.1
  cnt : w.heap[cb]? = some (.cells #[.int .i64 s.2] 3 (0, 0))
  fn : w.heap[fb]? = some (.cells #[.func (.func 100) #[] #[ptr cb]] 187 (0, 0))
  key : w.heap[kb]? = some (.cells #[.string k] 9 (0, 0))
theorem InvF.drew {wB : World} {k : ByteArray} {cb fb kb : Nat} {s : (Nat → Bool) × Int} {w : World} (h : InvF wB k cb fb kb s w) : InvF wB k cb fb kb s w.drew :=
  ⟨⟨fun c d hw => ⟨(h.shot.watch c d hw).obj, (h.shot.watch c d hw).ch⟩, h.shot.far, h.shot.size, fun B h1 h2 => below_drew (h.shot.below B h1 h2)⟩, h.cnt, h.fn, h.key⟩
theorem below_put {B : Nat} {w w' : World} (h : Below B w w') (b j : Nat) (hb : B ≤ b) (v : Value) : Below B w (w'.setCell ⟨b, j, none⟩ v) := h.setCell (p := ⟨b, j, none⟩) hb v
theorem InvF.fire {wB : World} {k : ByteArray} {cb fb kb : Nat} {s : (Nat → Bool) × Int} {w w1 w' : World} (hcb : wB.heap.size ≤ cb) (hfb : cb < fb) (hkb : fb < kb) (h : InvF wB k cb fb kb s w) {c : Nat} {d : Bool} (hw : WatchAt wB (c + 1) c d) (hf : FiredOf w w1 (c + 1) c)
    (hx : ((d || s.1 c) = true ∧ w' = w1) ∨ ((d || s.1 c) = false ∧ w' = w1.setCell ⟨cb, 0, none⟩ (.int .i64 (wrap64 (s.2 + 1))))) : InvF wB k cb fb kb (shootC wB s c) w' := by
  have hlt : c + 1 < wB.heap.size := (Array.getElem?_eq_some_iff.1 hw.obj).1
  have hs := h.shot.fire hw hf
  have k1 := (hf.far cb (Array.getElem?_eq_some_iff.1 h.cnt).1 (by omega) (by omega)).trans h.cnt
  have k2 := (hf.far fb (Array.getElem?_eq_some_iff.1 h.fn).1 (by omega) (by omega)).trans h.fn
  have k3 := (hf.far kb (Array.getElem?_eq_some_iff.1 h.key).1 (by omega) (by omega)).trans h.key
  rcases hx with ⟨e, rfl⟩ | ⟨e, rfl⟩
  · have e2 : (shootC wB s c).2 = s.2 := by unfold shootC; rw [shutAt_of hw, if_pos e]
    exact ⟨hs, by rw [e2]; exact k1, k2, k3⟩
  · have e2 : (shootC wB s c).2 = wrap64 (s.2 + 1) := by unfold shootC; rw [shutAt_of hw, if_neg (by rw [e]; simp)]
    have hk : ∀ j, j ≠ cb → (w1.setCell ⟨cb, 0, none⟩ (.int .i64 (wrap64 (s.2 + 1)))).heap[j]? = w1.heap[j]? := fun j hj => Below.heap_setCell _ _ _ j hj
    refine ⟨⟨fun c' d' hw' => ?_, fun j hj hs' => ?_, ?_, fun B h1 h2 => ?_⟩, by rw [e2]; exact set_atG k1 0 _, (hk fb (by omega)).trans k2, (hk kb (by omega)).trans k3⟩
    · have h9 : c' + 1 < wB.heap.size := (Array.getElem?_eq_some_iff.1 hw'.obj).1
      exact (hs.watch c' d' hw').move (hk _ (by omega)) (hk _ (by omega))
    · exact (hk j (by omega)).trans (hs.far j hj hs')
    · rw [size_setCellG]; exact hs.size
    · exact below_put (hs.below B h1 h2) cb 0 (by omega) _
theorem InvF.call {wB : World} {k : ByteArray} {cb fb kb : Nat} {s : (Nat → Bool) × Int} {w : World} (hcb : wB.heap.size ≤ cb) (hfb : cb < fb) (hkb : fb < kb) (h : InvF wB k cb fb kb s w) {m : Value} (hm : MkAt wB m) :
    ∃ c, m = ptr (c + 1) ∧ chOf m = c ∧ ∀ W, W = w.drew → Calls Tryz.prog 100 #[ptr (c + 1), ptr cb] W fun e w' => e = .returned (.tuple #[]) ∧ InvF wB k cb fb kb (shootC wB s c) w' := by
  obtain ⟨c, d, rfl, hw⟩ := hm
  refine ⟨c, rfl, rfl, fun W hW => ?_⟩
  subst hW
  have hlt : c + 1 < wB.heap.size := (Array.getElem?_eq_some_iff.1 hw.obj).1
  have hd := h.drew
  refine (call105 w.drew c cb s.2 (d || s.1 c) (hd.shot.watch c d hw) hd.cnt (by omega) (by omega)).mono ?_
  rintro e w' ⟨rfl, w1, hf, hx⟩
  exact ⟨rfl, hd.fire hcb hfb hkb hw hf hx⟩
def fr0_T : Bool × List (List Nat × List Nat) := (true, [([], []), ([], []), ([1], [1]), ([2], [2]), ([3], [3]), ([0, 4], [0, 4])])
def fr0_B : List Nat := [0, 0, 2, 6, 14, 31]
theorem fr0_bits : waitsOk fr0_T.2 fr0_B = true := by kernel_rfl
theorem fr0_tab : rtab .any (opsOf Tryz.f102 0) = fr0_T := by kernel_rfl
def fr2_T : Bool × List (List Nat × List Nat) := (true, [([], []), ([], []), ([1], [1]), ([2], [2]), ([3], [3]), ([4], [4]), ([5], [5]), ([6], [6]), ([0, 7], [0, 7])])
def fr2_B : List Nat := [0, 0, 2, 6, 14, 30, 62, 126, 255]
theorem fr2_bits : waitsOk fr2_T.2 fr2_B = true := by kernel_rfl
theorem fr2_tab : rtab .any (opsOf Tryz.f102 2) = fr2_T := by kernel_rfl
attribute [local go_sem] Oper.semAt_some
set_option maxRecDepth 100000 in
set_option maxHeartbeats 4000000 in
theorem call107 (wB : World) (k : ByteArray) (cb fb kb : Nat) (hcb : wB.heap.size ≤ cb) (hfb : cb < fb) (hkb : fb < kb) (s : (Nat → Bool) × Int) (n : Nd) (a : Nat) (w : World) (h : InvF wB k cb fb kb s w) (hn : NdAt wB n) (hm : Mks wB n) (ha : a ≤ k.size) (hk : k.size < 4000000000000) :
    Calls Tryz.prog 102 #[ptr n.b, .int .i64 (a : Nat), ptr fb, ptr kb] w fun e w' => e = .returned (.tuple #[]) ∧ InvF wB k cb fb kb (stepW wB k s n a) w' := by
  obtain ⟨c, em, ec, q1⟩ := h.call hcb hfb hkb (hm _ (mks_mark n))
  have hnw := FarP.nd rfl rfl rfl h.shot.farP n hn
  obtain ⟨kv, hb, -, -, -⟩ := hnw.parts
  have Q1 := Aside0.mk q1
  have m3 : w.cell? ⟨n.b, 3, none⟩ = some (.pointer (some ⟨c + 1, 0, none⟩)) := by rw [blk_cell hb, em]; rfl
  have cf : w.cell? ⟨fb, 0, none⟩ = some (.func (.func 100) #[] #[.pointer (some ⟨cb, 0, none⟩)]) := by rw [blk_cell h.fn]; rfl
  have HH := Aside0.mk (And.intro h (And.intro hn (And.intro hm ec)))
  clear q1 h hn hm em ec hnw hb
  unfold ptr at Q1 ⊢
  obtain ⟨nb, enb⟩ : ∃ nb, n.b = nb := ⟨_, rfl⟩
  have HNB := Aside0.mk enb
  rw [enb] at m3 ⊢
  clear enb
  go_enter Tryz.func102, Tryz.ntmps102
  go_wp2_with fail
  refine start_ (n := 6) (S := (fun Z => Z.cell? ⟨fb, 0, none⟩ = some (.func (.func 100) #[] #[.pointer (some ⟨cb, 0, none⟩)]) ∧ Z.cell? ⟨nb, 3, none⟩ = some (.pointer (some ⟨c + 1, 0, none⟩)))) (ds := [5]) #[false, false, false, false, false, false] (by kernel_rfl) rfl rfl ⟨cf, m3⟩ (fun hHeld => ?_); refine with_tabW fr0_tab fr0_bits (fun HT_ HW_ => ?_)
  refine take_ (i := 0) (N := some 6) (v := ?_) (a' := ?_) #[true, false, false, false, false, false] rfl rfl (take_ofW HT_.out HW_.out (by kernel_rfl)) (fun _ _ _ h => h) (Or.inl ⟨by rfl, ?_⟩) hHeld ?_ ?_
  rotate_left
  · rintro w' ⟨s0, s1⟩
    go_simp
    with_reducible rfl
  rotate_left
  · simp only [Act.put, List.setIfInBounds_toArray, List.set_cons_zero, List.set_cons_succ, i64_w, i32_w]
    rfl
  refine pure_ (i := 1) (N := some 7) (v := ?_) (a' := ?_) #[true, true, false, false, false, false] rfl rfl (any_of HT_.out (by kernel_rfl)) (fun _ _ _ h => h) (Or.inl ⟨by rfl, ?_⟩) ?_ ?_
  rotate_left
  · intro w'
    go_simp
    with_reducible rfl
  rotate_left
  · simp only [Act.put, List.setIfInBounds_toArray, List.set_cons_zero, List.set_cons_succ, i64_w, i32_w]
    rfl
  refine pure_ (i := 2) (N := some 8) (v := ?_) (a' := ?_) #[true, true, true, false, false, false] rfl rfl (any_of HT_.out (by kernel_rfl)) (fun _ _ _ h => h) (Or.inl ⟨by rfl, ?_⟩) ?_ ?_
  rotate_left
  · intro w'
    go_simp
    with_reducible rfl
  rotate_left
  · simp only [Act.put, List.setIfInBounds_toArray, List.set_cons_zero, List.set_cons_succ, i64_w, i32_w]
    rfl
  refine pure_ (i := 3) (N := some 9) (v := ?_) (a' := ?_) #[true, true, true, true, false, false] rfl rfl (any_of HT_.out (by kernel_rfl)) (fun _ _ _ h => h) (Or.inl ⟨by rfl, ?_⟩) ?_ ?_
  rotate_left
  · intro w'
    go_simp
    with_reducible rfl
  rotate_left
  · simp only [Act.put, List.setIfInBounds_toArray, List.set_cons_zero, List.set_cons_succ, i64_w, i32_w]
    rfl
  refine take_ (i := 4) (N := some 10) (v := ?_) (a' := ?_) #[true, true, true, true, true, false] rfl rfl (take_ofW HT_.out HW_.out (by kernel_rfl)) (fun _ _ _ h => h) (Or.inl ⟨by rfl, ?_⟩) hHeld ?_ ?_
  rotate_left
  · rintro w' ⟨s0, s1⟩
    go_simp
    with_reducible rfl
  rotate_left
  · simp only [Act.put, List.setIfInBounds_toArray, List.set_cons_zero, List.set_cons_succ, i64_w, i32_w]
    rfl
  refine last_ (i := 5) (N := some 11) #[true, true, true, true, true, true] rfl rfl (one_of HT_.out (by kernel_rfl)) (by decide) (fun K hK => ?_)
  refine call_ 100 #[.pointer (some ⟨c + 1, 0, none⟩), .pointer (some ⟨cb, 0, none⟩)] (by rfl) rfl (by have he := fun w => enters_ Tryz.func100 (by kernel_rfl) rfl #[.pointer (some ⟨c + 1, 0, none⟩), .pointer (some ⟨cb, 0, none⟩)] w; unfold execOp; simp [resolve, Deferred.ofValue, invoke, Act.eval, he]) ?_
  refine (Q1.out _ rfl).mono ?_
  rintro e w1 ⟨rfl, h1⟩
  have H1 := Aside0.mk h1
  clear h1 hHeld
  refine ⟨_, rfl, ?_⟩
  refine hK.out _ _ ?_
  clear hK K
  refine done_ (done_of HT_.out (by kernel_rfl)) ?_
  clear m3 cf Q1 HT_ HW_
  have hnd := FarP.nd rfl rfl rfl H1.out.shot.farP n HH.out.2.1
  obtain ⟨kv1, hb1, -, hlf1, -⟩ := hnd.parts
  have g1 : w1.cell? ⟨nb, 1, none⟩ = some (leafPtr n.leaf) := by rw [← HNB.out, blk_cell hb1]; rfl
  have gk : w1.cell? ⟨kb, 0, none⟩ = some (.string k) := by rw [blk_cell H1.out.key]; rfl
  have HLF := Aside0.mk hlf1
  clear hnd hb1 hlf1
  by_cases hak : a = k.size
  · have hae : ((a : Int) == (k.size : Int)) = true := by rw [hak]; simp
    have HAK := Aside0.mk hak
    cases e : n.leaf with
    | none =>
      rw [e] at g1
      have HE := Aside0.mk e
      unfold leafPtr at g1
      clear e hak
      go_wp2_with fail
      refine bodyPost_end (results_none rfl _ _ _) rfl ?_
      have e2 : stepW wB k s n a = shootC wB s c := by
        unfold stepW marksOn
        rw [if_pos HAK.out, HE.out, HH.out.2.2.2]
        rfl
      rw [e2]
      exact ⟨rfl, H1.out⟩
    | some l =>
      rw [e] at g1
      have HE := Aside0.mk e
      obtain ⟨c2, em2, ec2, q2⟩ := H1.out.call hcb hfb hkb (HH.out.2.2.1 _ (mks_leaf e))
      have Q2 := Aside0.mk q2
      have hl := HLF.out l e
      obtain ⟨lb, elb⟩ : ∃ lb, l.b = lb := ⟨_, rfl⟩
      have g2 : w1.cell? ⟨lb, 2, none⟩ = some (.pointer (some ⟨c2 + 1, 0, none⟩)) := by rw [← elb, blk_cell hl, em2]; rfl
      have cf : w1.cell? ⟨fb, 0, none⟩ = some (.func (.func 100) #[] #[.pointer (some ⟨cb, 0, none⟩)]) := by rw [blk_cell H1.out.fn]; rfl
      have HC2 := Aside0.mk ec2
      have g1' : w1.cell? ⟨nb, 1, none⟩ = some (.pointer (some ⟨lb, 0, none⟩)) := by rw [← elb]; exact g1
      clear g1
      have g1 := g1'
      clear g1'
      unfold ptr at Q2
      clear e hak hl elb em2 ec2 q2
      go_wp2_with fail
      refine start_ (n := 9) (S := (fun Z => Z.cell? ⟨fb, 0, none⟩ = some (.func (.func 100) #[] #[.pointer (some ⟨cb, 0, none⟩)]) ∧ Z.cell? ⟨nb, 1, none⟩ = some (.pointer (some ⟨lb, 0, none⟩)) ∧ Z.cell? ⟨lb, 2, none⟩ = some (.pointer (some ⟨c2 + 1, 0, none⟩)))) (ds := [8]) #[false, false, false, false, false, false, false, false, false] (by kernel_rfl) rfl rfl ⟨cf, g1, g2⟩ (fun hHeld => ?_); refine with_tabW fr2_tab fr2_bits (fun HT_ HW_ => ?_)
      refine take_ (i := 0) (N := some 23) (v := ?_) (a' := ?_) #[true, false, false, false, false, false, false, false, false] rfl rfl (take_ofW HT_.out HW_.out (by kernel_rfl)) (fun _ _ _ h => h) (Or.inl ⟨by rfl, ?_⟩) hHeld ?_ ?_
      rotate_left
      · rintro w' ⟨s0, s1, s2⟩
        go_simp
        with_reducible rfl
      rotate_left
      · simp only [Act.put, List.setIfInBounds_toArray, List.set_cons_zero, List.set_cons_succ, i64_w, i32_w]
        rfl
      refine pure_ (i := 1) (N := some 24) (v := ?_) (a' := ?_) #[true, true, false, false, false, false, false, false, false] rfl rfl (any_of HT_.out (by kernel_rfl)) (fun _ _ _ h => h) (Or.inl ⟨by rfl, ?_⟩) ?_ ?_
      rotate_left
      · intro w'
        go_simp
        with_reducible rfl
      rotate_left
      · simp only [Act.put, List.setIfInBounds_toArray, List.set_cons_zero, List.set_cons_succ, i64_w, i32_w]
        rfl
      refine pure_ (i := 2) (N := some 25) (v := ?_) (a' := ?_) #[true, true, true, false, false, false, false, false, false] rfl rfl (any_of HT_.out (by kernel_rfl)) (fun _ _ _ h => h) (Or.inl ⟨by rfl, ?_⟩) ?_ ?_
      rotate_left
      · intro w'
        go_simp
        with_reducible rfl
      rotate_left
      · simp only [Act.put, List.setIfInBounds_toArray, List.set_cons_zero, List.set_cons_succ, i64_w, i32_w]
        rfl
      refine pure_ (i := 3) (N := some 26) (v := ?_) (a' := ?_) #[true, true, true, true, false, false, false, false, false] rfl rfl (any_of HT_.out (by kernel_rfl)) (fun _ _ _ h => h) (Or.inl ⟨by rfl, ?_⟩) ?_ ?_
      rotate_left
      · intro w'
        go_simp
        with_reducible rfl
      rotate_left
      · simp only [Act.put, List.setIfInBounds_toArray, List.set_cons_zero, List.set_cons_succ, i64_w, i32_w]
        rfl
      refine take_ (i := 4) (N := some 27) (v := ?_) (a' := ?_) #[true, true, true, true, true, false, false, false, false] rfl rfl (take_ofW HT_.out HW_.out (by kernel_rfl)) (fun _ _ _ h => h) (Or.inl ⟨by rfl, ?_⟩) hHeld ?_ ?_
      rotate_left
      · rintro w' ⟨s0, s1, s2⟩
        go_simp
        with_reducible rfl
      rotate_left
      · simp only [Act.put, List.setIfInBounds_toArray, List.set_cons_zero, List.set_cons_succ, i64_w, i32_w]
        rfl
      refine pure_ (i := 5) (N := some 28) (v := ?_) (a' := ?_) #[true, true, true, true, true, true, false, false, false] rfl rfl (any_of HT_.out (by kernel_rfl)) (fun _ _ _ h => h) (Or.inl ⟨by rfl, ?_⟩) ?_ ?_
      rotate_left
      · intro w'
        go_simp
        with_reducible rfl
      rotate_left
      · simp only [Act.put, List.setIfInBounds_toArray, List.set_cons_zero, List.set_cons_succ, i64_w, i32_w]
        rfl
      refine pure_ (i := 6) (N := some 29) (v := ?_) (a' := ?_) #[true, true, true, true, true, true, true, false, false] rfl rfl (any_of HT_.out (by kernel_rfl)) (fun _ _ _ h => h) (Or.inl ⟨by rfl, ?_⟩) ?_ ?_
      rotate_left
      · intro w'
        go_simp
        with_reducible rfl
      rotate_left
      · simp only [Act.put, List.setIfInBounds_toArray, List.set_cons_zero, List.set_cons_succ, i64_w, i32_w]
        rfl
      refine take_ (i := 7) (N := some 30) (v := ?_) (a' := ?_) #[true, true, true, true, true, true, true, true, false] rfl rfl (take_ofW HT_.out HW_.out (by kernel_rfl)) (fun _ _ _ h => h) (Or.inl ⟨by rfl, ?_⟩) hHeld ?_ ?_
      rotate_left
      · rintro w' ⟨s0, s1, s2⟩
        go_simp
        with_reducible rfl
      rotate_left
      · simp only [Act.put, List.setIfInBounds_toArray, List.set_cons_zero, List.set_cons_succ, i64_w, i32_w]
        rfl
      refine last_ (i := 8) (N := some 31) #[true, true, true, true, true, true, true, true, true] rfl rfl (one_of HT_.out (by kernel_rfl)) (by decide) (fun K hK => ?_)
      refine call_ 100 #[.pointer (some ⟨c2 + 1, 0, none⟩), .pointer (some ⟨cb, 0, none⟩)] (by rfl) rfl (by have he := fun w => enters_ Tryz.func100 (by kernel_rfl) rfl #[.pointer (some ⟨c2 + 1, 0, none⟩), .pointer (some ⟨cb, 0, none⟩)] w; unfold execOp; simp [resolve, Deferred.ofValue, invoke, Act.eval, he]) ?_
      refine (Q2.out _ rfl).mono ?_
      rintro e w2 ⟨rfl, h2⟩
      have H2 := Aside0.mk h2
      clear h2 hHeld
      refine ⟨_, rfl, ?_⟩
      refine hK.out _ _ ?_
      clear hK K
      refine done_ (done_of HT_.out (by kernel_rfl)) ?_
      clear g1 g2 gk cf Q2 HT_ HW_
      go_wp2_with fail
      refine bodyPost_end (results_none rfl _ _ _) rfl ?_
      have e2 : stepW wB k s n a = shootC wB (shootC wB s c) c2 := by
        unfold stepW marksOn
        rw [if_pos HAK.out, HE.out, HH.out.2.2.2]
        show shootC wB (shootC wB s c) (chOf l.mark) = _
        rw [HC2.out]
      rw [e2]
      exact ⟨rfl, H2.out⟩
  · have hae : ((a : Int) == (k.size : Int)) = false := beq_eq_false_iff_ne.mpr (by omega)
    have HAK := Aside0.mk hak
    clear hak
    go_wp2_with fail
    refine bodyPost_end (results_none rfl _ _ _) rfl ?_
    have e2 : stepW wB k s n a = shootC wB s c := by
      unfold stepW marksOn
      rw [if_neg HAK.out, HH.out.2.2.2]
      rfl
    rw [e2]
    exact ⟨rfl, H1.out⟩
end Go.Proofs.YtjhgknagmiekeaaGreat.G
