/- joined: R15 P12 P13 -/
import Derived.Test.YtkaeglnnahecjaaJc
import Derived.Test.YtkaeglnnahecjaaJf
/- radix: built at memory. -/
set_option linter.unusedVariables false
set_option linter.unusedSimpArgs false
namespace Go.Proofs.Ytkaeglnnahecjaa.T
open Go.RowKit Go.Lib Go.Proofs Go.Proofs.YtkaeglnnahecjaaW.PrintWords

/-- a slice of texts, as it reads -/
def Strs (w : World) (A : Option Addr) (l : List ByteArray) : Prop := ∀ i (h : i < l.length), ∃ ad, A = some ad ∧ w.cell? (ad.add i) = some (.string l[i])
theorem Strs.keep {w w' : World} {A : Option Addr} {l : List ByteArray} (h : Strs w A l) (k : Kept w w') : Strs w' A l := fun i hi => by
  obtain ⟨ad, h1, h2⟩ := h i hi
  exact ⟨ad, h1, k.cell h2⟩
def IntVals (root : Nd) : Prop := ∀ r l, findT root r = some l → ∃ v : Int, l.val = .int .i64 v
theorem vals_empty (b : Nat) (m : Value) : IntVals (emptyN b m) := fun r l h => by
  by_cases e : r = []
  · subst e; rw [findT_nil] at h; cases h
  · rw [findT_eq _ _ e] at h; cases h
theorem vals_ins {root : Nd} (hg : Good root) (h : IntVals root) (k : ByteArray) (l : Lf) (v : Int) (hl : l.val = .int .i64 v) (ns : Sup) : IntVals (insN root k l ns) := fun r l' e => by
  rw [find_ins k.size k (Nat.le_refl _) root hg.ok l ns r] at e
  by_cases er : r = L k
  · rw [if_pos er] at e; cases e; exact ⟨v, hl⟩
  · rw [if_neg er] at e; exact h r l' e
/-- a tree of whole numbers, as the program's calls make it -/
structure IntTree (w : World) (tb : Nat) (root : Nd) (size : Int) : Prop where
  at_ : TrAt w tb root size
  good : Good root
  vals : IntVals root
theorem incr_range (b : Bool) : 0 ≤ incr b ∧ incr b ≤ 1 := by cases b <;> simp [incr]
set_option maxHeartbeats 4000000 in
set_option maxRecDepth 100000 in
theorem built (w : World) (A : Option Addr) (c : Nat) (ks : List ByteArray) (hA : Strs w A ks) (hn : ks.length < 1000000000000) (hk : ∀ k ∈ ks, k.size < 4000000000000) :
    Calls Try.prog 12 #[.slice A ks.length c] w fun e w' => ∃ tb root size, e = .returned (ptr tb) ∧ IntTree w' tb root size ∧ 0 ≤ size ∧ size ≤ ks.length ∧ Below w.heap.size w w' := by
  have HA := Aside0.mk hA
  have HK := Aside0.mk hk
  have q0 := Aside0.mk (treeNew w)
  obtain ⟨n, en⟩ : ∃ n, ks.length = n := ⟨_, rfl⟩
  have HN := Aside0.mk en
  rw [en] at hn ⊢
  clear hA hk en
  go_enter Try.func12, Try.ntmps12
  go_wp2_with (go_at_call 32; refine q0.out.mono ?_)
  rintro e w1 ⟨tb, b, m, rfl, ht, hm, hb1, hb2, hB⟩
  have H1 := Aside0.mk (And.intro (IntTree.mk ht (good_empty b m) (vals_empty b m)) hB)
  clear ht hm hb1 hb2 hB q0
  unfold ptr
  go_wp2_with fail
  go_loopg [3, 9] (n + 1) (fun kq v3 v9 w' => ∃ (i tb : Nat) (root : Nd) (size : Int), v3 = .pointer (some ⟨tb, 0, none⟩) ∧ v9 = .int .i64 (i : Int) ∧ Aside0 (i + kq = n + 1 ∧ i ≤ n) ∧ Aside0 (IntTree w' tb root size ∧ 0 ≤ size ∧ size ≤ i) ∧ Aside0 (Below w.heap.size w w'))
  case atStart => exact ⟨0, tb, emptyN b m, 0, rfl, rfl, ⟨by omega⟩, ⟨H1.out.1, by omega, by omega⟩, ⟨H1.out.2⟩⟩
  case round =>
    obtain ⟨i, tb, root, size, rfl, rfl, HI, HT, HB⟩ := hrel
    by_cases hi : i < n
    · have hi' : i < ks.length := by rw [HN.out]; exact hi
      obtain ⟨ad, ea, ka⟩ := (HA.out.keep (Kept.of HB.out)) i hi'
      obtain ⟨k, ek⟩ : ∃ k, ks[i] = k := ⟨_, rfl⟩
      rw [ek] at ka
      have hks : k.size < 4000000000000 := HK.out k (by rw [← ek]; exact List.getElem_mem _)
      subst ea
      have q1 := Aside0.mk (treeInsert wr tb root size (i : Int) k HT.out.1.at_ HT.out.1.good.ok HT.out.1.good.sm hks HT.out.2.1 (by have := HT.out.2.2; have := HI.out; omega))
      clear ek hi'
      unfold ptr at q1
      go_wp2_with (go_at_call 36; refine q1.out.mono ?_)
      rintro e w2 ⟨tb2, lb, m2, ns, had, old, rfl, ht, ho, h1, h2, h3, h4, h5⟩
      have H2 := Aside0.mk (And.intro (IntTree.mk ht (good_ins HT.out.1.good k hks ⟨lb, k, .int .i64 (i : Int), m2⟩ rfl ns) (vals_ins HT.out.1.good HT.out.1.vals k ⟨lb, k, .int .i64 (i : Int), m2⟩ i rfl ns)) h5)
      clear ht ho h1 h2 h3 h4 h5 q1
      go_wp2_with fail
      go_roundg (n - i)
      case measure => have := HI.out; omega
      case rel =>
        have hr := incr_range had
        have hs := HT.out.2
        exact ⟨i + 1, tb2, _, size + incr had, rfl, by simp, ⟨by have := HI.out; omega⟩, ⟨H2.out.1, by omega, by omega⟩, ⟨HB.out.trans ⟨H2.out.2.os, H2.out.2.tape, H2.out.2.output, H2.out.2.size, fun x hx => H2.out.2.block x (by have := HB.out.size; omega)⟩⟩⟩
    · have hin : i = n := by have := HI.out; omega
      subst hin
      go_wp2_with fail
      go_ret
      exact ⟨tb, root, size, rfl, HT.out.1, HT.out.2.1, HT.out.2.2, HB.out⟩
end Go.Proofs.Ytkaeglnnahecjaa.T
/- radix, plain: how many entries a tree has; its values by their keys. -/
set_option linter.unusedVariables false
set_option linter.unusedSimpArgs false
namespace Go.Proofs.Ytkaeglnnahecjaa.T

/-- the value at r -/
def valT (n : Nd) (r : List UInt8) : Option Value := (findT n r).map Lf.val
def gtB (k : List UInt8) (e : Ent) : Bool := decide (k < e.1)
theorem gtB_iff {k : List UInt8} {e : Ent} : gtB k e = true ↔ k < e.1 := by unfold gtB; simp
theorem all_split {root : Nd} (h : Good root) (k : List UInt8) :
    All root = (All root).filter (fun e => decide (e.1 < k)) ++ ((findT root k).toList.map fun l => (k, l)) ++ (All root).filter (gtB k) := by
  refine rise_ext (all_rise h) ?_ (fun x => ?_)
  · have hr := all_rise h
    rw [List.append_assoc, List.pairwise_append, List.pairwise_append]
    refine ⟨hr.filter _, ⟨?_, hr.filter _, ?_⟩, ?_⟩
    · cases findT root k <;> simp
    · intro a ha c hc
      obtain ⟨l, _, e⟩ := List.mem_map.1 ha
      rw [← e]
      exact gtB_iff.1 (List.mem_filter.1 hc).2
    · intro a ha c hc
      have h1 : a.1 < k := of_decide_eq_true (List.mem_filter.1 ha).2
      rcases List.mem_append.1 hc with e | e
      · obtain ⟨l, _, e⟩ := List.mem_map.1 e
        rw [← e]; exact h1
      · exact blt_trans h1 (gtB_iff.1 (List.mem_filter.1 e).2)
  · obtain ⟨q, l'⟩ := x
    rw [List.mem_append, List.mem_append, List.mem_filter, List.mem_filter, mem_all h, List.mem_map]
    simp only [decide_eq_true_eq, gtB_iff]
    constructor
    · intro h1
      rcases blt_total q k with h2 | h2 | h2
      · exact .inl (.inl ⟨h1, h2⟩)
      · subst h2; exact .inl (.inr ⟨l', by rw [h1]; simp, rfl⟩)
      · exact .inr ⟨h1, h2⟩
    · rintro ((⟨h1, _⟩ | ⟨l, h1, h2⟩) | ⟨h1, _⟩)
      · exact h1
      · cases h2; exact Option.mem_toList.1 h1
      · exact h1
theorem all_ins2 {root : Nd} (h : Good root) (k : ByteArray) (l : Lf) (ns : Sup) (hg : Good (insN root k l ns)) :
    All (insN root k l ns) = (All root).filter (fun e => decide (e.1 < L k)) ++ (L k, l) :: (All root).filter (gtB (L k)) := by
  rw [all_ins h k l ns hg]
  congr 2
theorem len_ins {root : Nd} (h : Good root) (k : ByteArray) (l : Lf) (ns : Sup) (hg : Good (insN root k l ns)) :
    ((All (insN root k l ns)).length : Int) = (All root).length + (if findT root (L k) = none then 1 else 0) := by
  have e1 := congrArg List.length (all_ins2 h k l ns hg)
  have e2 := congrArg List.length (all_split h (L k))
  simp only [List.length_append, List.length_cons, List.length_map] at e1 e2
  cases e : findT root (L k) with
  | none => rw [e] at e2; simp at e2 ⊢; omega
  | some l' => rw [e] at e2; simp at e2 ⊢; omega
theorem len_del {root m : Nd} (h : Fine root) (k : ByteArray) (l : Lf) (ns : Sup) (hd : delN root k ns = some (m, l)) : ((All m).length : Int) = (All root).length - 1 := by
  obtain ⟨hm, hf, _⟩ := fine_del h k l ns hd
  have e1 := all_del h k l ns hd
  have e2 := all_split h.toGood (L k)
  rw [hf] at e2
  have e3 : All m = (All root).filter (fun e => decide (e.1 < L k)) ++ (All root).filter (gtB (L k)) := by
    refine rise_ext (all_rise hm.toGood) ?_ (fun x => ?_)
    · have hr := all_rise h.toGood
      rw [List.pairwise_append]
      exact ⟨hr.filter _, hr.filter _, fun a ha c hc => blt_trans (of_decide_eq_true (List.mem_filter.1 ha).2 : a.1 < L k) (gtB_iff.1 (List.mem_filter.1 hc).2)⟩
    · rw [e1, List.mem_append, List.mem_filter, List.mem_filter, List.mem_filter]
      simp only [decide_eq_true_eq, gtB_iff]
      constructor
      · rintro ⟨h1, h2⟩
        rcases blt_total x.1 (L k) with h3 | h3 | h3
        · exact .inl ⟨h1, h3⟩
        · exact absurd h3 h2
        · exact .inr ⟨h1, h3⟩
      · rintro (⟨h1, h2⟩ | ⟨h1, h2⟩)
        · exact ⟨h1, fun e => by rw [e] at h2; exact blt_irrefl _ h2⟩
        · exact ⟨h1, fun e => by rw [e] at h2; exact blt_irrefl _ h2⟩
  have e4 := congrArg List.length e3
  have e5 := congrArg List.length e2
  simp only [List.length_append, List.length_cons, List.length_map] at e4 e5
  simp at e5
  omega
theorem len_same {a b : Nd} (ha : Good a) (hb : Good b) (h : ∀ r, findT a r ≠ none ↔ findT b r ≠ none) : (All a).length = (All b).length := by
  have e : (All a).map (·.1) = (All b).map (·.1) := by
    refine sorted_ext (lt := (· < ·)) (fun a => blt_irrefl a) (fun a b c => blt_trans) _ _ (List.pairwise_map.2 (all_rise ha)) (List.pairwise_map.2 (all_rise hb)) (fun x => ?_)
    have key : ∀ {n : Nd}, Good n → (x ∈ (All n).map (·.1) ↔ findT n x ≠ none) := fun {n} hn => by
      rw [List.mem_map]
      constructor
      · rintro ⟨⟨q, l⟩, h1, e⟩
        simp only at e
        subst e
        rw [(mem_all hn q l).1 h1]; simp
      · intro h1
        obtain ⟨l, hl⟩ := some_ne h1
        exact ⟨(x, l), (mem_all hn x l).2 hl, rfl⟩
    rw [key ha, key hb, h]
  have := congrArg List.length e
  simpa using this
theorem all_empty (b : Nat) (m : Value) : All (emptyN b m) = [] := by
  show ents [] (emptyN b m) = []
  rw [ents_eq]
  simp [emptyN, Nd.leaf, Nd.kids, entss]
theorem valT_ne {n : Nd} {r : List UInt8} : valT n r ≠ none ↔ findT n r ≠ none := by
  unfold valT
  cases findT n r <;> simp
theorem valT_ins {root : Nd} (h : Good root) (k : ByteArray) (l : Lf) (ns : Sup) (r : List UInt8) : valT (insN root k l ns) r = if r = L k then some l.val else valT root r := by
  unfold valT
  rw [find_ins k.size k (Nat.le_refl _) root h.ok l ns r]
  split <;> rfl
theorem valT_del {root m : Nd} (h : Fine root) (k : ByteArray) (l : Lf) (ns : Sup) (hd : delN root k ns = some (m, l)) (r : List UInt8) : valT m r = if r = L k then none else valT root r := by
  unfold valT
  rw [(fine_del h k l ns hd).2.2 r]
  split <;> rfl
theorem valT_empty (b : Nat) (m : Value) (r : List UInt8) : valT (emptyN b m) r = none := by
  unfold valT
  by_cases e : r = []
  · subst e; rw [findT_nil]; rfl
  · rw [findT_eq _ _ e]; rfl
end Go.Proofs.Ytkaeglnnahecjaa.T
/- radix, plain: the last place of a key in a list. -/
set_option linter.unusedVariables false
set_option linter.unusedSimpArgs false
namespace Go.Proofs.Ytkaeglnnahecjaa.T

/-- the last of the first n places whose key is r -/
def lastI (ks : List ByteArray) : Nat → List UInt8 → Option Nat
  | 0, _ => none
  | n + 1, r => if r = L (ks.getD n ⟨#[]⟩) then some n else lastI ks n r
theorem lastI_some {ks : List ByteArray} : ∀ {n : Nat} {r : List UInt8} {j : Nat}, lastI ks n r = some j → j < n ∧ r = L (ks.getD j ⟨#[]⟩)
  | 0, r, j, h => by unfold lastI at h; cases h
  | n + 1, r, j, h => by
    unfold lastI at h
    split at h
    · rename_i e; cases h; exact ⟨by omega, e⟩
    · have := lastI_some h; exact ⟨by omega, this.2⟩
theorem lastI_ge {ks : List ByteArray} : ∀ {n : Nat} {i : Nat}, i < n → ∃ j, lastI ks n (L (ks.getD i ⟨#[]⟩)) = some j ∧ i ≤ j
  | 0, i, h => by omega
  | n + 1, i, h => by
    unfold lastI
    split
    · exact ⟨n, rfl, by omega⟩
    · rename_i hne
      have : i < n := by
        rcases Nat.lt_or_ge i n with h1 | h1
        · exact h1
        · have : i = n := by omega
          subst this
          exact absurd rfl hne
      exact lastI_ge this
def numV (o : Option Nat) : Option Value := o.map fun i => .int .i64 (i : Int)
/-- of the last places those from i on -/
def fromI (ks : List ByteArray) (n i : Nat) (r : List UInt8) : Option Nat := (lastI ks n r).bind fun j => if i ≤ j then some j else none
theorem fromI_top (ks : List ByteArray) (n : Nat) (r : List UInt8) : fromI ks n n r = none := by
  unfold fromI
  cases e : lastI ks n r with
  | none => rfl
  | some j => have := (lastI_some e).1; simp only [Option.bind_some]; rw [if_neg (by omega)]
theorem fromI_zero (ks : List ByteArray) (n : Nat) (r : List UInt8) : fromI ks n 0 r = lastI ks n r := by
  unfold fromI
  cases e : lastI ks n r with
  | none => rfl
  | some j => simp
theorem fromI_there {ks : List ByteArray} {n i : Nat} (hi : i < n) (h : fromI ks n (i + 1) (L (ks.getD i ⟨#[]⟩)) ≠ none) (r : List UInt8) : fromI ks n i r = fromI ks n (i + 1) r := by
  unfold fromI at h ⊢
  cases e : lastI ks n r with
  | none => rfl
  | some j =>
    simp only [Option.bind_some]
    by_cases h1 : i + 1 ≤ j
    · rw [if_pos (by omega), if_pos h1]
    · by_cases h2 : i ≤ j
      · have : j = i := by omega
        subst this
        have h3 := (lastI_some e).2
        rw [← h3, e] at h
        simp only [Option.bind_some] at h
        rw [if_neg h1] at h
        exact absurd rfl h
      · rw [if_neg h2, if_neg h1]
theorem fromI_new {ks : List ByteArray} {n i : Nat} (hi : i < n) (h : fromI ks n (i + 1) (L (ks.getD i ⟨#[]⟩)) = none) (r : List UInt8) : fromI ks n i r = if r = L (ks.getD i ⟨#[]⟩) then some i else fromI ks n (i + 1) r := by
  by_cases hr : r = L (ks.getD i ⟨#[]⟩)
  · rw [if_pos hr, hr]
    obtain ⟨j, hj, hij⟩ := lastI_ge (ks := ks) hi
    unfold fromI at h ⊢
    rw [hj] at h ⊢
    simp only [Option.bind_some] at h ⊢
    by_cases h1 : i + 1 ≤ j
    · rw [if_pos h1] at h; cases h
    · have : j = i := by omega
      subst this
      rw [if_pos (Nat.le_refl _)]
  · rw [if_neg hr]
    unfold fromI
    cases e : lastI ks n r with
    | none => rfl
    | some j =>
      simp only [Option.bind_some]
      by_cases h1 : i + 1 ≤ j
      · rw [if_pos (by omega), if_pos h1]
      · by_cases h2 : i ≤ j
        · have : j = i := by omega
          subst this
          exact absurd (lastI_some e).2 hr
        · rw [if_neg h2, if_neg h1]
theorem getD_get {ks : List ByteArray} {i : Nat} (h : i < ks.length) : ks.getD i ⟨#[]⟩ = ks[i] := by simp [List.getD_eq_getElem?_getD, h]
end Go.Proofs.Ytkaeglnnahecjaa.T
