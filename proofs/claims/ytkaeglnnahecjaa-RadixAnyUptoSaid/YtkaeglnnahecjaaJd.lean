/- joined: E0 E1 R15 X0 X1 X2 -/
import Derived.Test.YtkaeglnnahecjaaJa
import Derived.Test.YtkaeglnnahecjaaJc
import Derived.Test.YtkaeglnnahecjaaJb
/- radix, plain: the shape of a tree, without blocks, values and marks: one type for all instances. -/
set_option linter.unusedVariables false
namespace Go.Proofs.Ytkaeglnnahecjaa.E

def pos : List Nat → Nat → Nat
  | [], _ => 0
  | y :: r, x => if y < x then pos r x + 1 else 0
def com : List UInt8 → List UInt8 → Nat
  | x :: xs, y :: ys => if x = y then com xs ys + 1 else 0
  | _, _ => 0
def comB (a b : ByteArray) : Nat := com a.data.toList b.data.toList
def insAt {α : Type} (i : Nat) (x : α) (l : List α) : List α := l.take i ++ x :: l.drop i
def fbS (s : ByteArray) : Nat := (s.data.toList.getD 0 0).toNat
def fbAt (s : ByteArray) (i : Nat) : Nat := (s.data.toList.getD i 0).toNat
def hit (fs : List Nat) (x : Nat) : Bool := decide (fs[pos fs x]? = some x)
inductive Sh where
  | mk (label : ByteArray) (leaf : Bool) (kids : List Sh)
def Sh.label : Sh → ByteArray | .mk l _ _ => l
def Sh.leaf : Sh → Bool | .mk _ l _ => l
def Sh.kids : Sh → List Sh | .mk _ _ k => k
def sfb (n : Sh) : Nat := (n.label.data.toList.getD 0 0).toNat
def skid (n : Sh) (rest : ByteArray) : Option Sh := if hit (n.kids.map sfb) (fbS rest) then n.kids[pos (n.kids.map sfb) (fbS rest)]? else none
def slow (k : Sh) (p : Nat) : Sh := .mk (k.label.extract p k.label.size) k.leaf k.kids
def ssplit (k : Sh) (p : Nat) (rest : ByteArray) : Sh :=
  if p = rest.size then .mk (rest.extract 0 p) true [slow k p]
  else .mk (rest.extract 0 p) false (insAt (pos [sfb (slow k p)] (fbAt rest p)) (.mk (rest.extract p rest.size) true []) [slow k p])
def sins (n : Sh) (rest : ByteArray) : Sh :=
  if h0 : rest.size = 0 then .mk n.label true n.kids
  else match skid n rest with
    | none => .mk n.label n.leaf (insAt (pos (n.kids.map sfb) (fbS rest)) (.mk rest true []) n.kids)
    | some k =>
      if h : 0 < comB k.label rest ∧ comB k.label rest = k.label.size then
        .mk n.label n.leaf (n.kids.set (pos (n.kids.map sfb) (fbS rest)) (sins k (rest.extract (comB k.label rest) rest.size)))
      else .mk n.label n.leaf (n.kids.set (pos (n.kids.map sfb) (fbS rest)) (ssplit k (comB k.label rest) rest))
termination_by rest.size
decreasing_by
  simp only [ByteArray.size_extract]
  omega
def sdown (n : Sh) (rest : ByteArray) : Option Sh := if rest.size = 0 then none else (skid n rest).bind fun k => if Lib.hasPrefix rest.data.toList k.label.data.toList then some k else none
def sway (k : ByteArray) : Nat → Option Sh → Nat → Nat → Nat
  | 0, _, _, s => s
  | _ + 1, none, _, s => s
  | f + 1, some n, at_, s => sway k f (sdown n (k.extract (at_ + n.label.size) k.size)) (at_ + n.label.size) (at_ + n.label.size)
def sreach (n : Sh) (k : ByteArray) : Nat := sway k (k.size + 2) (some n) 0 0
end Go.Proofs.Ytkaeglnnahecjaa.E
/- radix, plain: what a row of insertions holds: the last number put in at each key, the shape, how many keys. -/
set_option linter.unusedVariables false
namespace Go.Proofs.Ytkaeglnnahecjaa.E

abbrev keyAt (ks : List ByteArray) (i : Nat) : ByteArray := ks.getD i ⟨#[]⟩
/-- the last number below n whose key is r -/
def last (ks : List ByteArray) (r : List UInt8) : Nat → Option Nat
  | 0 => none
  | i + 1 => if r = (keyAt ks i).data.toList then some i else last ks r i
def shOf (ks : List ByteArray) : Nat → Sh
  | 0 => .mk ⟨#[]⟩ false []
  | i + 1 => sins (shOf ks i) (keyAt ks i)
def cnt (ks : List ByteArray) : Nat → Int
  | 0 => 0
  | i + 1 => cnt ks i + if (last ks (keyAt ks i).data.toList i).isSome then 0 else 1
/-- the number at the longest beginning of R, of at most m letters -/
def long (ks : List ByteArray) (n : Nat) (R : List UInt8) : Nat → Option Nat
  | 0 => last ks (R.take 0) n
  | j + 1 => if (last ks (R.take (j + 1)) n).isSome then last ks (R.take (j + 1)) n else long ks n R j
theorem long_hit (ks : List ByteArray) (n : Nat) (R : List UInt8) (j : Nat) (h : last ks (R.take j) n ≠ none) : ∀ m, j ≤ m → (∀ j', j < j' → j' ≤ m → last ks (R.take j') n = none) → long ks n R m = last ks (R.take j) n
  | 0, hm, _ => by have : j = 0 := by omega
                   subst this; rfl
  | m + 1, hm, ha => by
    unfold long
    by_cases e : j = m + 1
    · subst e
      cases e2 : last ks (R.take (m + 1)) n with
      | none => exact absurd e2 h
      | some i => rfl
    · rw [ha (m + 1) (by omega) (Nat.le_refl _)]
      exact long_hit ks n R j h m (by omega) (fun j' h1 h2 => ha j' h1 (by omega))
theorem long_miss (ks : List ByteArray) (n : Nat) (R : List UInt8) : ∀ m, (∀ j', j' ≤ m → last ks (R.take j') n = none) → long ks n R m = none
  | 0, ha => ha 0 (Nat.le_refl _)
  | m + 1, ha => by
    unfold long
    rw [ha (m + 1) (Nat.le_refl _)]
    exact long_miss ks n R m (fun j' h => ha j' (by omega))
end Go.Proofs.Ytkaeglnnahecjaa.E
/- radix: built at memory. -/
set_option linter.unusedVariables false
set_option linter.unusedSimpArgs false
namespace Go.Proofs.Ytkaeglnnahecjaa.T
open Go.RowKit Go.Lib Go.Proofs Go.Proofs.YtkaeglnnahecjaaW.PrintWords

/-- a slice of texts, as it reads -/
def Strs (w : World) (A : Option Addr) (l : List ByteArray) : Prop := ∀ i (h : i < l.length), ∃ ad, A = some ad ∧ w.cell? (ad.add i) = some (.string l[i])
theorem Strs.keep {w w' : World} {A : Option Addr} {l : List ByteArray} (h : Strs w A l) (k : Kept w w') : Strs w' A l := fun i hi => by
  obtain ⟨ad, h1, h2⟩ := h i hi
  exact ⟨ad, h1, k.cell h2⟩
def IntVals (root : Nd) : Prop := ∀ r l, findT root r = some l → ∃ v : Int, l.val = .int .i64 v
theorem vals_empty (b : Nat) (m : Value) : IntVals (emptyN b m) := fun r l h => by
  by_cases e : r = []
  · subst e; rw [findT_nil] at h; cases h
  · rw [findT_eq _ _ e] at h; cases h
theorem vals_ins {root : Nd} (hg : Good root) (h : IntVals root) (k : ByteArray) (l : Lf) (v : Int) (hl : l.val = .int .i64 v) (ns : Sup) : IntVals (insN root k l ns) := fun r l' e => by
  rw [find_ins k.size k (Nat.le_refl _) root hg.ok l ns r] at e
  by_cases er : r = L k
  · rw [if_pos er] at e; cases e; exact ⟨v, hl⟩
  · rw [if_neg er] at e; exact h r l' e
/-- a tree of whole numbers, as the program's calls make it -/
structure IntTree (w : World) (tb : Nat) (root : Nd) (size : Int) : Prop where
  at_ : TrAt w tb root size
  good : Good root
  vals : IntVals root
theorem incr_range (b : Bool) : 0 ≤ incr b ∧ incr b ≤ 1 := by cases b <;> simp [incr]
set_option maxHeartbeats 4000000 in
set_option maxRecDepth 100000 in
theorem built (w : World) (A : Option Addr) (c : Nat) (ks : List ByteArray) (hA : Strs w A ks) (hn : ks.length < 1000000000000) (hk : ∀ k ∈ ks, k.size < 4000000000000) :
    Calls Try.prog 12 #[.slice A ks.length c] w fun e w' => ∃ tb root size, e = .returned (ptr tb) ∧ IntTree w' tb root size ∧ 0 ≤ size ∧ size ≤ ks.length ∧ Below w.heap.size w w' := by
  have HA := Aside0.mk hA
  have HK := Aside0.mk hk
  have q0 := Aside0.mk (treeNew w)
  obtain ⟨n, en⟩ : ∃ n, ks.length = n := ⟨_, rfl⟩
  have HN := Aside0.mk en
  rw [en] at hn ⊢
  clear hA hk en
  go_enter Try.func12, Try.ntmps12
  go_wp2_with (go_at_call 32; refine q0.out.mono ?_)
  rintro e w1 ⟨tb, b, m, rfl, ht, hm, hb1, hb2, hB⟩
  have H1 := Aside0.mk (And.intro (IntTree.mk ht (good_empty b m) (vals_empty b m)) hB)
  clear ht hm hb1 hb2 hB q0
  unfold ptr
  go_wp2_with fail
  go_loopg [3, 9] (n + 1) (fun kq v3 v9 w' => ∃ (i tb : Nat) (root : Nd) (size : Int), v3 = .pointer (some ⟨tb, 0, none⟩) ∧ v9 = .int .i64 (i : Int) ∧ Aside0 (i + kq = n + 1 ∧ i ≤ n) ∧ Aside0 (IntTree w' tb root size ∧ 0 ≤ size ∧ size ≤ i) ∧ Aside0 (Below w.heap.size w w'))
  case atStart => exact ⟨0, tb, emptyN b m, 0, rfl, rfl, ⟨by omega⟩, ⟨H1.out.1, by omega, by omega⟩, ⟨H1.out.2⟩⟩
  case round =>
    obtain ⟨i, tb, root, size, rfl, rfl, HI, HT, HB⟩ := hrel
    by_cases hi : i < n
    · have hi' : i < ks.length := by rw [HN.out]; exact hi
      obtain ⟨ad, ea, ka⟩ := (HA.out.keep (Kept.of HB.out)) i hi'
      obtain ⟨k, ek⟩ : ∃ k, ks[i] = k := ⟨_, rfl⟩
      rw [ek] at ka
      have hks : k.size < 4000000000000 := HK.out k (by rw [← ek]; exact List.getElem_mem _)
      subst ea
      have q1 := Aside0.mk (treeInsert wr tb root size (i : Int) k HT.out.1.at_ HT.out.1.good.ok HT.out.1.good.sm hks HT.out.2.1 (by have := HT.out.2.2; have := HI.out; omega))
      clear ek hi'
      unfold ptr at q1
      go_wp2_with (go_at_call 36; refine q1.out.mono ?_)
      rintro e w2 ⟨tb2, lb, m2, ns, had, old, rfl, ht, ho, h1, h2, h3, h4, h5⟩
      have H2 := Aside0.mk (And.intro (IntTree.mk ht (good_ins HT.out.1.good k hks ⟨lb, k, .int .i64 (i : Int), m2⟩ rfl ns) (vals_ins HT.out.1.good HT.out.1.vals k ⟨lb, k, .int .i64 (i : Int), m2⟩ i rfl ns)) h5)
      clear ht ho h1 h2 h3 h4 h5 q1
      go_wp2_with fail
      go_roundg (n - i)
      case measure => have := HI.out; omega
      case rel =>
        have hr := incr_range had
        have hs := HT.out.2
        exact ⟨i + 1, tb2, _, size + incr had, rfl, by simp, ⟨by have := HI.out; omega⟩, ⟨H2.out.1, by omega, by omega⟩, ⟨HB.out.trans ⟨H2.out.2.os, H2.out.2.tape, H2.out.2.output, H2.out.2.size, fun x hx => H2.out.2.block x (by have := HB.out.size; omega)⟩⟩⟩
    · have hin : i = n := by have := HI.out; omega
      subst hin
      go_wp2_with fail
      go_ret
      exact ⟨tb, root, size, rfl, HT.out.1, HT.out.2.1, HT.out.2.2, HB.out⟩
end Go.Proofs.Ytkaeglnnahecjaa.T
/- radix, plain: insertion and the way down, by the shape alone. -/
set_option linter.unusedVariables false
set_option linter.unusedSimpArgs false
namespace Go.Proofs.Ytkaeglnnahecjaa.T

mutual
def sh : Nd → E.Sh
  | .mk _ label leaf kids _ => .mk label leaf.isSome (shs kids)
def shs : List Nd → List E.Sh
  | [] => []
  | n :: r => sh n :: shs r
end
theorem shs_eq : ∀ ks : List Nd, shs ks = ks.map sh
  | [] => by rw [shs]; rfl
  | n :: r => by rw [shs, shs_eq r]; rfl
theorem sh_label (n : Nd) : (sh n).label = n.label := by cases n; rw [sh]; rfl
theorem sh_leaf (n : Nd) : (sh n).leaf = n.leaf.isSome := by cases n; rw [sh]; rfl
theorem sh_kids (n : Nd) : (sh n).kids = n.kids.map sh := by cases n; rw [sh, shs_eq]; rfl
theorem sh_mk (b : Nat) (label : ByteArray) (leaf : Option Lf) (kids : List Nd) (m : Value) : sh (.mk b label leaf kids m) = .mk label leaf.isSome (kids.map sh) := by rw [sh, shs_eq]
theorem sh_pos : ∀ (l : List Nat) (x : Nat), E.pos l x = pos l x
  | [], _ => rfl
  | y :: r, x => by unfold pos E.pos; rw [sh_pos r x]
theorem sh_hit (l : List Nat) (x : Nat) : E.hit l x = hit l x := by unfold hit E.hit; rw [sh_pos]
theorem sh_com : ∀ a b : List UInt8, E.com a b = com a b
  | [], _ => rfl
  | x :: a, [] => rfl
  | x :: a, y :: b => by unfold com E.com; rw [sh_com a b]
theorem sh_comB (a b : ByteArray) : E.comB a b = comB a b := sh_com _ _
theorem sh_fb (n : Nd) : E.sfb (sh n) = fb n := by unfold E.sfb fb; rw [sh_label]
theorem sh_fbs (ks : List Nd) : (ks.map sh).map E.sfb = ks.map fb := by rw [List.map_map]; exact List.map_congr_left fun k _ => sh_fb k
theorem sh_insAt {α : Type} (i : Nat) (x : α) (l : List α) : E.insAt i x l = insAt i x l := rfl
theorem sh_map_insAt {α β : Type} (f : α → β) (i : Nat) (x : α) (l : List α) : (insAt i x l).map f = insAt i (f x) (l.map f) := by simp [insAt]
theorem sh_kid (n : Nd) (rest : ByteArray) : E.skid (sh n) rest = (kidN n rest).map sh := by
  unfold E.skid kidN
  rw [sh_kids, sh_fbs, sh_hit, sh_pos]
  show (if hit (n.kids.map fb) (fbS rest) = true then (n.kids.map sh)[pos (n.kids.map fb) (fbS rest)]? else none) = _
  split
  · rw [List.getElem?_map]
  · rfl
theorem sh_low (k : Nd) (p b : Nat) : sh (lowN k p b) = E.slow (sh k) p := by
  unfold lowN E.slow
  rw [sh_mk, sh_label, sh_leaf, sh_kids]
theorem sh_split (k : Nd) (p : Nat) (rest : ByteArray) (l : Lf) (ns : Sup) : sh (splitN k p rest l ns) = E.ssplit (sh k) p rest := by
  unfold splitN E.ssplit
  split
  · rw [sh_mk, List.map_cons, List.map_nil, sh_low]; rfl
  · rw [sh_mk, sh_map_insAt, List.map_cons, List.map_nil, sh_low, ← sh_low k p (ns 2).1, sh_fb, sh_pos]
    unfold tipN
    rw [sh_mk]
    rfl
theorem sh_ins : ∀ (N : Nat) (rest : ByteArray), rest.size ≤ N → ∀ (n : Nd) (l : Lf) (ns : Sup), sh (insN n rest l ns) = E.sins (sh n) rest := by
  intro N
  induction N with
  | zero =>
    intro rest hN n l ns
    rw [insN, dif_pos (by omega), E.sins, dif_pos (by omega), sh_mk, sh_label, sh_kids]; rfl
  | succ N ih =>
    intro rest hN n l ns
    rw [insN, E.sins]
    by_cases h0 : rest.size = 0
    · rw [dif_pos h0, dif_pos h0, sh_mk, sh_label, sh_kids]; rfl
    · rw [dif_neg h0, dif_neg h0, sh_kid]
      have efs : E.fbS rest = fbS rest := rfl
      cases ek : kidN n rest with
      | none =>
        simp only [Option.map_none]
        rw [sh_mk, sh_map_insAt, sh_label, sh_leaf, sh_kids, sh_fbs, sh_pos]
        unfold tipN
        rw [sh_mk]
        rfl
      | some k =>
        simp only [Option.map_some]
        rw [sh_label k, sh_comB]
        by_cases h : 0 < comB k.label rest ∧ comB k.label rest = k.label.size
        · rw [dif_pos h, dif_pos h, sh_mk, List.map_set, ih _ (by simp only [ByteArray.size_extract]; omega), sh_label, sh_leaf, sh_kids, sh_fbs, sh_pos]
          rfl
        · rw [dif_neg h, dif_neg h, sh_mk, List.map_set, sh_split, sh_label, sh_leaf, sh_kids, sh_fbs, sh_pos]
          rfl
theorem sh_down (n : Nd) (rest : ByteArray) : E.sdown (sh n) rest = (downN n rest).map sh := by
  unfold E.sdown downN
  by_cases h : rest.size = 0
  · rw [if_pos h, if_pos h]; rfl
  · rw [if_neg h, if_neg h, sh_kid]
    cases kidN n rest with
    | none => rfl
    | some k =>
      simp only [Option.map_some, Option.bind_some, sh_label]
      split <;> rfl
theorem sh_way (k : ByteArray) : ∀ (f : Nat) (o : Option Nd) (a s : Nat), wayF stepR k f o a s = E.sway k f (o.map sh) a s
  | 0, _, _, _ => rfl
  | _ + 1, none, _, _ => rfl
  | f + 1, some n, a, s => by
    simp only [Option.map_some]
    unfold wayF E.sway
    rw [sh_way k f, ← sh_down, sh_label]
    rfl
theorem sh_reach (n : Nd) (k : ByteArray) : reachN n k = E.sreach (sh n) k := sh_way k _ _ _ _
end Go.Proofs.Ytkaeglnnahecjaa.T
/- radix, plain: the tree of a row of insertions. -/
set_option linter.unusedVariables false
set_option linter.unusedSimpArgs false
namespace Go.Proofs.Ytkaeglnnahecjaa.T

/-- the leaf that number o put in -/
def Of (val : Nat → ByteArray → Value) (ks : List ByteArray) (o : Option Nat) (x : Option Lf) : Prop :=
  (o = none ∧ x = none) ∨ ∃ i l, o = some i ∧ x = some l ∧ l.key = E.keyAt ks i ∧ l.val = val i (E.keyAt ks i)
theorem Of.none_iff {val : Nat → ByteArray → Value} {ks : List ByteArray} {o : Option Nat} {x : Option Lf} (h : Of val ks o x) : x = none ↔ o = none := by
  rcases h with ⟨h1, h2⟩ | ⟨i, l, h1, h2, _⟩
  · simp [h1, h2]
  · simp [h1, h2]
/-- the tree that the first n keys make -/
structure Row' (val : Nat → ByteArray → Value) (ks : List ByteArray) (n : Nat) (root : Nd) (size : Int) : Prop where
  good : Good root
  sh : sh root = E.shOf ks n
  vals : ∀ r, Of val ks (E.last ks r n) (findT root r)
  size : size = E.cnt ks n
theorem row_empty (val : Nat → ByteArray → Value) (ks : List ByteArray) (b : Nat) (m : Value) : Row' val ks 0 (emptyN b m) 0 :=
  ⟨good_empty b m, by unfold emptyN; rw [sh_mk]; rfl, fun r => .inl ⟨rfl, by
    by_cases e : r = []
    · subst e; rw [findT_nil]; rfl
    · rw [findT_eq _ _ e]; rfl⟩, rfl⟩
theorem row_ins {val : Nat → ByteArray → Value} {ks : List ByteArray} {n : Nat} {root : Nd} {size : Int} (h : Row' val ks n root size) (k : ByteArray) (hk : k = E.keyAt ks n) (hs : k.size < 4000000000000) (l : Lf) (hl : l.key = k) (hv : l.val = val n k) (ns : Sup) (had : Bool) (old : Value) (hh : (had, old) = hadOld (findN root k)) :
    Row' val ks (n + 1) (insN root k l ns) (size + incr had) := by
  refine ⟨good_ins h.good k hs l hl ns, ?_, fun r => ?_, ?_⟩
  · rw [sh_ins k.size k (Nat.le_refl _), h.sh, hk]; rfl
  · rw [find_ins k.size k (Nat.le_refl _) root h.good.ok l ns r]
    unfold E.last
    have ek : L k = (E.keyAt ks n).data.toList := by rw [hk]
    by_cases e : r = L k
    · rw [if_pos e, if_pos (e.trans ek)]
      exact .inr ⟨n, l, rfl, rfl, by rw [hl, hk], by rw [hv, hk]⟩
    · rw [if_neg e, if_neg (fun e2 => e (e2.trans ek.symm))]
      exact h.vals r
  · have hv := h.vals (L k)
    rw [findN_eq k.size k (Nat.le_refl _) root h.good.ok] at hh
    rw [h.size, show E.cnt ks (n + 1) = E.cnt ks n + (if (E.last ks (E.keyAt ks n).data.toList n).isSome then 0 else 1) from rfl]
    have ek : (E.keyAt ks n).data.toList = L k := by rw [hk]
    rw [ek]
    rcases hv with ⟨h1, h2⟩ | ⟨i, l', h1, h2, _⟩
    · rw [h2] at hh; rw [h1]
      have : had = false := congrArg Prod.fst hh
      subst this; rfl
    · rw [h2] at hh; rw [h1]
      have : had = true := congrArg Prod.fst hh
      subst this; rfl
theorem row_long {val : Nat → ByteArray → Value} {ks : List ByteArray} {n : Nat} {root : Nd} {size : Int} (h : Row' val ks n root size) (k : ByteArray) : Of val ks (E.long ks n (L k) (L k).length) (longN root k) := by
  rcases long_eq h.good k with ⟨j, h1, h2, h3, h4⟩ | ⟨h1, h2⟩
  · rw [E.long_hit ks n (L k) j (fun e => h3 (by rw [← h2]; exact (h.vals _).none_iff.2 e)) _ h1 (fun j' a b => (h.vals _).none_iff.1 (h4 j' a b)), ← h2]
    exact h.vals _
  · rw [E.long_miss ks n (L k) _ (fun j' a => (h.vals _).none_iff.1 (h2 j' a))]
    exact .inl ⟨rfl, h1⟩
theorem row_reach {val : Nat → ByteArray → Value} {ks : List ByteArray} {n : Nat} {root : Nd} {size : Int} (h : Row' val ks n root size) (k : ByteArray) : reachN root k = E.sreach (E.shOf ks n) k := by rw [sh_reach, h.sh]
theorem cnt_range (ks : List ByteArray) : ∀ n, 0 ≤ E.cnt ks n ∧ E.cnt ks n ≤ n
  | 0 => by simp [E.cnt]
  | n + 1 => by
    have := cnt_range ks n
    unfold E.cnt
    split <;> omega
end Go.Proofs.Ytkaeglnnahecjaa.T
/- radix: built at memory, with all that it holds. -/
set_option linter.unusedVariables false
set_option linter.unusedSimpArgs false
namespace Go.Proofs.Ytkaeglnnahecjaa.T
open Go.RowKit Go.Lib Go.Proofs Go.Proofs.YtkaeglnnahecjaaW.PrintWords

abbrev iv : Nat → ByteArray → Value := fun i _ => .int .i64 (i : Int)
/-- a tree at memory that the first n keys make -/
structure Made (w : World) (tb : Nat) (root : Nd) (ks : List ByteArray) (n : Nat) (size : Int) : Prop where
  at_ : TrAt w tb root size
  row : Row' iv ks n root size
theorem keyAt_get {ks : List ByteArray} {i : Nat} (h : i < ks.length) : E.keyAt ks i = ks[i] := by simp [E.keyAt, h]
set_option maxHeartbeats 4000000 in
set_option maxRecDepth 100000 in
theorem builtRow (w : World) (A : Option Addr) (c : Nat) (ks : List ByteArray) (hA : Strs w A ks) (hn : ks.length < 1000000000000) (hk : ∀ k ∈ ks, k.size < 4000000000000) :
    Calls Try.prog 12 #[.slice A ks.length c] w fun e w' => ∃ tb root size, e = .returned (ptr tb) ∧ Made w' tb root ks ks.length size ∧ Below w.heap.size w w' := by
  have HA := Aside0.mk hA
  have HK := Aside0.mk hk
  have q0 := Aside0.mk (treeNew w)
  obtain ⟨n, en⟩ : ∃ n, ks.length = n := ⟨_, rfl⟩
  have HN := Aside0.mk en
  rw [en] at hn ⊢
  clear hA hk en
  go_enter Try.func12, Try.ntmps12
  go_wp2_with (go_at_call 32; refine q0.out.mono ?_)
  rintro e w1 ⟨tb, b, m, rfl, ht, hm, hb1, hb2, hB⟩
  have H1 := Aside0.mk (And.intro (Made.mk ht (row_empty iv ks b m)) hB)
  clear ht hm hb1 hb2 hB q0
  unfold ptr
  go_wp2_with fail
  go_loopg [3, 9] (n + 1) (fun kq v3 v9 w' => ∃ (i tb : Nat) (root : Nd) (size : Int), v3 = .pointer (some ⟨tb, 0, none⟩) ∧ v9 = .int .i64 (i : Int) ∧ Aside0 (i + kq = n + 1 ∧ i ≤ n) ∧ Aside0 (Made w' tb root ks i size) ∧ Aside0 (Below w.heap.size w w'))
  case atStart => exact ⟨0, tb, emptyN b m, 0, rfl, rfl, ⟨by omega⟩, ⟨H1.out.1⟩, ⟨H1.out.2⟩⟩
  case round =>
    obtain ⟨i, tb, root, size, rfl, rfl, HI, HT, HB⟩ := hrel
    by_cases hi : i < n
    · have hi' : i < ks.length := by rw [HN.out]; exact hi
      obtain ⟨ad, ea, ka⟩ := (HA.out.keep (Kept.of HB.out)) i hi'
      obtain ⟨k, ek⟩ : ∃ k, ks[i] = k := ⟨_, rfl⟩
      rw [ek] at ka
      have hks : k.size < 4000000000000 := HK.out k (by rw [← ek]; exact List.getElem_mem _)
      subst ea
      have hcr := cnt_range ks i
      have hsz := HT.out.row.size
      have q1 := Aside0.mk (treeInsert wr tb root size (i : Int) k HT.out.at_ HT.out.row.good.ok HT.out.row.good.sm hks (by omega) (by have := HI.out; omega))
      have hke : k = E.keyAt ks i := by rw [keyAt_get hi']; exact ek.symm
      have HKE := Aside0.mk hke
      clear ek hi' hcr hsz hke
      unfold ptr at q1
      go_wp2_with (go_at_call 36; refine q1.out.mono ?_)
      rintro e w2 ⟨tb2, lb, m2, ns, had, old, rfl, ht, ho, h1, h2, h3, h4, h5⟩
      have H2 := Aside0.mk (And.intro (Made.mk ht (row_ins HT.out.row k HKE.out hks ⟨lb, k, .int .i64 (i : Int), m2⟩ rfl rfl ns had old ho)) h5)
      clear ht ho h1 h2 h3 h4 h5 q1
      go_wp2_with fail
      go_roundg (n - i)
      case measure => have := HI.out; omega
      case rel =>
        exact ⟨i + 1, tb2, _, size + incr had, rfl, by simp, ⟨by have := HI.out; omega⟩, ⟨H2.out.1⟩, ⟨HB.out.trans ⟨H2.out.2.os, H2.out.2.tape, H2.out.2.output, H2.out.2.size, fun x hx => H2.out.2.block x (by have := HB.out.size; omega)⟩⟩⟩
    · have hin : i = n := by have := HI.out; omega
      subst hin
      go_wp2_with fail
      go_ret
      exact ⟨tb, root, size, rfl, HT.out, HB.out⟩
end Go.Proofs.Ytkaeglnnahecjaa.T
