/- radix: insert, plain; and what holds the new nodes at memory. -/
import Derived.Test.YtkaeglnnahecjaaR6
set_option linter.unusedVariables false
set_option linter.unusedSimpArgs false
namespace Go.Proofs.Ytkaeglnnahecjaa.T
open Go.RowKit Go.Lib Go.Proofs Go.Proofs.YtkaeglnnahecjaaW.PrintWords

def insAt {α : Type} (i : Nat) (x : α) (l : List α) : List α := l.take i ++ x :: l.drop i
abbrev Sup := Nat → Nat × Value
def fbAt (s : ByteArray) (i : Nat) : Nat := (s.data.toList.getD i 0).toNat
def lowN (k : Nd) (p b : Nat) : Nd := .mk b (k.label.extract p k.label.size) k.leaf k.kids k.mark
def tipN (rest : ByteArray) (l : Lf) (s : Nat × Value) : Nd := .mk s.1 rest (some l) [] s.2
def splitN (k : Nd) (p : Nat) (rest : ByteArray) (l : Lf) (ns : Sup) : Nd :=
  if p = rest.size then .mk (ns 1).1 (rest.extract 0 p) (some l) [lowN k p (ns 2).1] (ns 1).2
  else .mk (ns 1).1 (rest.extract 0 p) none (insAt (pos [fb (lowN k p (ns 2).1)] (fbAt rest p)) (tipN (rest.extract p rest.size) l (ns 3)) [lowN k p (ns 2).1]) (ns 1).2
def insN (n : Nd) (rest : ByteArray) (l : Lf) (ns : Sup) : Nd :=
  if h0 : rest.size = 0 then .mk (ns 0).1 n.label (some l) n.kids (ns 0).2
  else match kidN n rest with
    | none => .mk (ns 0).1 n.label n.leaf (insAt (pos (n.kids.map fb) (fbS rest)) (tipN rest l (ns 1)) n.kids) (ns 0).2
    | some k =>
      if h : 0 < comB k.label rest ∧ comB k.label rest = k.label.size then
        .mk (ns 0).1 n.label n.leaf (n.kids.set (pos (n.kids.map fb) (fbS rest)) (insN k (rest.extract (comB k.label rest) rest.size) l (fun j => ns (j + 1)))) (ns 0).2
      else .mk (ns 0).1 n.label n.leaf (n.kids.set (pos (n.kids.map fb) (fbS rest)) (splitN k (comB k.label rest) rest l ns)) (ns 0).2
termination_by rest.size
decreasing_by
  simp only [ByteArray.size_extract]
  omega
/-- the leaf at rest beneath n -/
def findN (n : Nd) (rest : ByteArray) : Option Lf :=
  if h0 : rest.size = 0 then n.leaf
  else match kidN n rest with
    | none => none
    | some k => if h : 0 < comB k.label rest ∧ comB k.label rest = k.label.size then findN k (rest.extract (comB k.label rest) rest.size) else none
termination_by rest.size
decreasing_by
  simp only [ByteArray.size_extract]
  omega
/-- a new watch's pointer -/
def NewMark (B : Nat) (w : World) (m : Value) : Prop := ∃ c, m = ptr (c + 1) ∧ B ≤ c ∧ w.heap[c]? = some (.chan 0 #[] false 0 0 false) ∧ w.heap[c + 1]? = some (watchObj c)
structure SupOk (B : Nat) (w : World) (ns : Sup) : Prop where
  new : ∀ j, B ≤ (ns j).1 ∧ (ns j).1 < w.heap.size
  mark : ∀ j, NewMark B w (ns j).2
theorem NewMark.keep {B : Nat} {w w' : World} {m : Value} (h : NewMark B w m) (k : Kept w w') : NewMark B w' m := by
  obtain ⟨c, h1, h2, h3, h4⟩ := h
  exact ⟨c, h1, h2, k.at h3, k.at h4⟩
theorem NewMark.mono {B B' : Nat} {w : World} {m : Value} (h : NewMark B w m) (hb : B' ≤ B) : NewMark B' w m := by
  obtain ⟨c, h1, h2, h3, h4⟩ := h
  exact ⟨c, h1, by omega, h3, h4⟩
theorem row_of_owns {w : World} {base n : Nat} {v : Value} {ps : List Value} (h : w.ownsRow base 58 1 v n ps) : Row w v ps := by
  have hl : ps.length = n := by simpa using h.1
  rcases h.2 with ⟨rfl, h0⟩ | ⟨g, cap, cur, rfl, hb, hg, hnc, hcm, hcs, ht⟩
  · exact .inl ⟨rfl, List.length_eq_zero_iff.1 (by omega)⟩
  · refine .inr ⟨⟨g, 0, none⟩, cap, by rw [hl], fun i hi => ?_⟩
    rw [Addr.add_lit, Nat.zero_add, blk_cell hg]
    have e := List.getElem?_take_of_lt (l := cur.toList) (show i < n * 1 by omega)
    rw [ht, List.getElem?_eq_getElem hi, Array.getElem?_toList] at e
    exact e.symm
theorem ptrs_insAt (i : Nat) (x : Nd) (ks : List Nd) : ptrs (insAt i x ks) = (ptrs ks).take i ++ ptr x.b :: (ptrs ks).drop i := by simp [ptrs, insAt]
theorem ptrs_set (i : Nat) (x : Nd) (ks : List Nd) : ptrs (ks.set i x) = (ptrs ks).set i (ptr x.b) := by simp [ptrs, List.map_set]
theorem NdsAt.of {w : World} : ∀ {ks : List Nd}, (∀ k ∈ ks, NdAt w k) → NdsAt w ks
  | [], _ => by unfold NdsAt; trivial
  | n :: r, h => by
    unfold NdsAt
    exact ⟨h n (by simp), NdsAt.of (fun k hk => h k (by simp [hk]))⟩
theorem NdsAt.mem {w : World} {ks : List Nd} (h : NdsAt w ks) (k : Nd) (hk : k ∈ ks) : NdAt w k := by
  obtain ⟨i, hi, e⟩ := List.getElem_of_mem hk
  rw [← e]
  exact h.get i hi
theorem NdsAt.insAt {w : World} {ks : List Nd} (h : NdsAt w ks) (i : Nat) (x : Nd) (hx : NdAt w x) : NdsAt w (insAt i x ks) := NdsAt.of (fun k hk => by
  rcases List.mem_append.1 hk with e | e
  · exact h.mem k (List.mem_of_mem_take e)
  · rcases List.mem_cons.1 e with e | e
    · rw [e]; exact hx
    · exact h.mem k (List.mem_of_mem_drop e))
theorem NdsAt.set {w : World} {ks : List Nd} (h : NdsAt w ks) (i : Nat) (x : Nd) (hx : NdAt w x) : NdsAt w (ks.set i x) := NdsAt.of (fun k hk => by
  rcases List.mem_or_eq_of_mem_set hk with e | e
  · exact h.mem k e
  · rw [e]; exact hx)
theorem NdAt.mk {w : World} {b : Nat} {label : ByteArray} {leaf : Option Lf} {kids : List Nd} {mark kv : Value} (hb : w.heap[b]? = some (.cells #[.string label, leafPtr leaf, kv, mark] 125 (0, 0))) (hr : Row w kv (ptrs kids)) (hl : LfAt w leaf) (hk : NdsAt w kids) (hm : ∃ mb, mark = ptr mb) : NdAt w (.mk b label leaf kids mark) := by
  unfold NdAt
  exact ⟨⟨kv, hb, hr⟩, hl, hk, hm⟩
end Go.Proofs.Ytkaeglnnahecjaa.T
