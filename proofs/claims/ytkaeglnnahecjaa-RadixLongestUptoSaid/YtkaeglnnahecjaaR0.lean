/- radix: trees of nodes at memory; what holds a tree. -/
import Derived.Test.YtkaeglnnahecjaaChecked
import Derived.Test.YtkaeglnnahecjaaWMore
import Derived.Test.YtkaeglnnahecjaaShelf
import Derived.Handy
import Derived.Lib.SliceRun
import Derived.Laws.AppendOwn
import Derived.Laws.AppendOwnNone
import Derived.WalkSpells
set_option linter.unusedVariables false
set_option linter.unusedSimpArgs false
namespace Go.Proofs.Ytkaeglnnahecjaa.T
open Go.RowKit Go.Proofs.YtkaeglnnahecjaaW.PrintWords

/-- a leaf in block b -/
structure Lf where
  b : Nat
  key : ByteArray
  val : Value
  mark : Value
/-- a node in block b, with all beneath it -/
inductive Nd where
  | mk (b : Nat) (label : ByteArray) (leaf : Option Lf) (kids : List Nd) (mark : Value)
def Nd.b : Nd → Nat | .mk b _ _ _ _ => b
def Nd.label : Nd → ByteArray | .mk _ l _ _ _ => l
def Nd.leaf : Nd → Option Lf | .mk _ _ l _ _ => l
def Nd.kids : Nd → List Nd | .mk _ _ _ k _ => k
def Nd.mark : Nd → Value | .mk _ _ _ _ m => m
instance : Inhabited Nd := ⟨.mk 0 .empty none [] .nilFunc⟩
def ptr (b : Nat) : Value := .pointer (some ⟨b, 0, none⟩)
def leafPtr : Option Lf → Value | none => .pointer none | some l => ptr l.b
def ptrs (ks : List Nd) : List Value := ks.map (fun k => ptr k.b)
/-- a row of values, wherever it lies -/
def Row (w : World) (v : Value) (ps : List Value) : Prop := (v = .slice none 0 0 ∧ ps = []) ∨ ∃ ad c, v = .slice (some ad) ps.length c ∧ ∀ i (h : i < ps.length), w.cell? (ad.add i) = some ps[i]
theorem Row.open {w : World} {v : Value} {ps : List Value} (h : Row w v ps) : ∃ A c, v = .slice A ps.length c ∧ ∀ i (h : i < ps.length), ∃ ad, A = some ad ∧ w.cell? (ad.add i) = some ps[i] := by
  rcases h with ⟨rfl, rfl⟩ | ⟨ad, c, rfl, h⟩
  · exact ⟨none, 0, rfl, fun i hi => by simp at hi⟩
  · exact ⟨some ad, c, rfl, fun i hi => ⟨ad, rfl, h i hi⟩⟩
def LfAt (w : World) (o : Option Lf) : Prop := ∀ l, o = some l → w.heap[l.b]? = some (.cells #[.string l.key, l.val, l.mark] 139 (0, 0))
mutual
def NdAt (w : World) : Nd → Prop
  | .mk b label leaf kids mark => (∃ kv, w.heap[b]? = some (.cells #[.string label, leafPtr leaf, kv, mark] 125 (0, 0)) ∧ Row w kv (ptrs kids)) ∧ LfAt w leaf ∧ NdsAt w kids ∧ ∃ mb, mark = ptr mb
def NdsAt (w : World) : List Nd → Prop
  | [] => True
  | n :: r => NdAt w n ∧ NdsAt w r
end
/-- what was there is still there -/
def Kept (w w' : World) : Prop := ∀ k, k < w.heap.size → w'.heap[k]? = w.heap[k]?
theorem Kept.of {w w' : World} (h : Below w.heap.size w w') : Kept w w' := h.block
theorem Kept.cell {w w' : World} (h : Kept w w') {a : Addr} {v : Value} (hv : w.cell? a = some v) : w'.cell? a = some v :=
  (World.cell?_of_block (h a.block (World.block_lt_of_cell? w a hv))).trans hv
theorem Kept.at {w w' : World} (h : Kept w w') {b : Nat} {o : Obj} (hv : w.heap[b]? = some o) : w'.heap[b]? = some o :=
  (h b (Array.getElem?_eq_some_iff.1 hv).1).trans hv
theorem Row.keep {w w' : World} {v : Value} {ps : List Value} (h : Row w v ps) (hk : Kept w w') : Row w' v ps := by
  rcases h with h | ⟨ad, c, hv, hr⟩
  · exact .inl h
  · exact .inr ⟨ad, c, hv, fun i hi => hk.cell (hr i hi)⟩
theorem LfAt.keep {w w' : World} {o : Option Lf} (h : LfAt w o) (hk : Kept w w') : LfAt w' o := fun l e => hk.at (h l e)
mutual
theorem NdAt.keep {w w' : World} (hk : Kept w w') : ∀ t : Nd, NdAt w t → NdAt w' t
  | .mk b label leaf kids mark, h => by
    unfold NdAt at h ⊢
    obtain ⟨⟨kv, h1, h2⟩, h3, h4, h5⟩ := h
    exact ⟨⟨kv, hk.at h1, h2.keep hk⟩, h3.keep hk, NdsAt.keep hk kids h4, h5⟩
theorem NdsAt.keep {w w' : World} (hk : Kept w w') : ∀ ks : List Nd, NdsAt w ks → NdsAt w' ks
  | [], _ => by unfold NdsAt; trivial
  | n :: r, h => by
    unfold NdsAt at h ⊢
    exact ⟨NdAt.keep hk n h.1, NdsAt.keep hk r h.2⟩
end
theorem NdsAt.get {w : World} : ∀ {ks : List Nd}, NdsAt w ks → ∀ i (h : i < ks.length), NdAt w ks[i]
  | n :: r, h, 0, _ => by unfold NdsAt at h; exact h.1
  | n :: r, h, i + 1, hi => by unfold NdsAt at h; exact NdsAt.get (ks := r) h.2 i (by simpa using hi)
/-- first bytes rise, labels are not empty -/
def fb (n : Nd) : Nat := (n.label.data.toList.getD 0 0).toNat
mutual
def Ok : Nd → Prop
  | .mk _ _ _ kids _ => (kids.map fb).Pairwise (· < ·) ∧ (∀ k ∈ kids, 0 < k.label.size) ∧ Oks kids
def Oks : List Nd → Prop
  | [] => True
  | n :: r => Ok n ∧ Oks r
end
theorem Oks.get : ∀ {ks : List Nd}, Oks ks → ∀ k ∈ ks, Ok k
  | n :: r, h, k, hk => by
    unfold Oks at h
    rcases List.mem_cons.1 hk with e | e
    · rw [e]; exact h.1
    · exact Oks.get h.2 k e
/-- how many stand below x -/
def pos : List Nat → Nat → Nat
  | [], _ => 0
  | y :: r, x => if y < x then pos r x + 1 else 0
theorem pos_le : ∀ (l : List Nat) (x : Nat), pos l x ≤ l.length
  | [], _ => Nat.le_refl _
  | y :: r, x => by unfold pos; have := pos_le r x; split <;> simp <;> omega
theorem pos_below : ∀ (l : List Nat) (x i : Nat) (hi : i < l.length), i < pos l x → l[i] < x
  | y :: r, x, 0, _, h => by unfold pos at h; split at h; assumption; omega
  | y :: r, x, i + 1, hi, h => by
    unfold pos at h
    split at h
    · simpa using pos_below r x i (by simpa using hi) (by omega)
    · omega
theorem pos_unique : ∀ (l : List Nat) (x i : Nat), l.Pairwise (· < ·) → i ≤ l.length → (∀ j (h : j < l.length), j < i → l[j] < x) → (∀ (h : i < l.length), x ≤ l[i]) → pos l x = i
  | [], x, i, _, hi, _, _ => by simp at hi; simp [pos, hi]
  | y :: r, x, 0, _, _, _, h2 => by unfold pos; have := h2 (by simp); simp at this; rw [if_neg (by omega)]
  | y :: r, x, i + 1, hp, hi, h1, h2 => by
    unfold pos
    have := h1 0 (by simp) (by omega)
    simp at this
    rw [if_pos this, pos_unique r x i (List.pairwise_cons.1 hp).2 (by simpa using hi) (fun j hj hji => h1 (j + 1) (by simp; omega) (by omega)) (fun h => h2 (by simp; omega))]
end Go.Proofs.Ytkaeglnnahecjaa.T
