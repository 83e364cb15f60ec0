/- radix: insert at memory: the leaf goes into the node itself. -/
import Derived.Test.YtkaeglnnahecjaaR7
set_option linter.unusedVariables false
set_option linter.unusedSimpArgs false
namespace Go.Proofs.Ytkaeglnnahecjaa.T
open Go.RowKit Go.Lib Go.Proofs Go.Proofs.YtkaeglnnahecjaaW.PrintWords

theorem empty_of (rest : ByteArray) (h0 : rest.size = 0) : rest = ⟨#[]⟩ := by
  apply ByteArray.ext
  apply Array.eq_empty_of_size_eq_zero
  exact h0
theorem kept_set {w w' : World} {B : Nat} (hb : Below B w w') (g : Nat) (hg : B ≤ g) (o : Nat) (v : Value) : Below B w (w'.setCell ⟨g, o, none⟩ v) :=
  hb.trans ⟨rfl, rfl, rfl, by simp [World.setCell], fun k hk => Below.heap_setCell _ _ _ k (by show k ≠ g; omega)⟩
theorem owns_set {w : World} {base n g : Nat} {v : Value} {ps : List Value} (h : w.ownsRow base 58 1 v n ps) (hg : v.ownBlock ≠ some g) (o : Nat) (x : Value) : (w.setCell ⟨g, o, none⟩ x).ownsRow base 58 1 v n ps :=
  h.kept (grown_set w g o x) (.inr hg)
/-- w2 is as w1 is at the blocks below B0 and from B on -/
def Ag (B0 B : Nat) (w1 w2 : World) : Prop := ∀ x, x < w1.heap.size → x < B0 ∨ B ≤ x → w2.heap[x]? = w1.heap[x]?
theorem Ag.refl (B0 B : Nat) (w : World) : Ag B0 B w w := fun _ _ _ => rfl
theorem Ag.at {B0 B : Nat} {w1 w2 : World} (h : Ag B0 B w1 w2) {x : Nat} {o : Obj} (hx : w1.heap[x]? = some o) (hb : x < B0 ∨ B ≤ x) : w2.heap[x]? = some o := (h x (Array.getElem?_eq_some_iff.1 hx).1 hb).trans hx
theorem Ag.owns {B0 B : Nat} {w1 w2 : World} (h : Ag B0 B w1 w2) {n : Nat} {v : Value} {ps : List Value} (ho : w1.ownsRow B 58 1 v n ps) : w2.ownsRow B 58 1 v n ps := by
  refine ⟨ho.1, ?_⟩
  rcases ho.2 with h0 | ⟨g, cap, cur, rfl, hb, hg, rest⟩
  · exact .inl h0
  · exact .inr ⟨g, cap, cur, rfl, hb, h.at hg (.inr hb), rest⟩
theorem Ag.kept {B : Nat} {w0 w1 w2 : World} (h : Ag w0.heap.size B w1 w2) (hs : w0.heap.size ≤ w1.heap.size) (hk : Kept w0 w1) : Kept w0 w2 := fun x hx => (h x (by omega) (.inl hx)).trans (hk x hx)
/-- a tree that stands whatever happens to the blocks from B0 up to B -/
def Rob (B0 B : Nat) (w : World) (t : Nd) : Prop := ∀ w2, Ag B0 B w w2 → NdAt w2 t
theorem Kept.trans {a b c : World} (h : Kept a b) (k : Kept b c) (hs : a.heap.size ≤ b.heap.size) : Kept a c := fun x hx => (k x (by omega)).trans (h x hx)
set_option maxHeartbeats 4000000 in
set_option maxRecDepth 100000 in
theorem ins_empty (w0 w : World) (hk0 : Kept w0 w) (hs0 : w0.heap.size ≤ w.heap.size) (n : Nd) (rest : ByteArray) (l : Lf) (hn0 : NdAt w0 n) (ho : Ok n) (hl : LfAt w0 (some l)) (h0 : rest.size = 0) :
    Calls Try.prog 77 #[ptr n.b, .string rest, ptr l.b] w fun e w' => ∃ ns, e = .returned (.tuple #[ptr (ns 0).1, leafPtr (findN n rest)]) ∧ Rob w0.heap.size w.heap.size w' (insN n rest l ns) ∧ SupOk w.heap.size w' ns ∧ Below w.heap.size w w' := by
  have hn := NdAt.keep hk0 n hn0
  have q1 := Aside0.mk (fresh w n hn ho.few)
  obtain ⟨kv0, hb0, _, _, _⟩ := hn.parts
  obtain ⟨_, _, _, hlf, hks⟩ := hn0.parts
  have c1 : w.cell? ⟨n.b, 1, none⟩ = some (leafPtr n.leaf) := by rw [blk_cell hb0]; rfl
  have hnb : n.b < w.heap.size := (Array.getElem?_eq_some_iff.1 hb0).1
  have HN := Aside0.mk (And.intro hlf (And.intro hks (And.intro hl hnb)))
  have e0 := empty_of rest h0
  have ei : ∀ ns, insN n rest l ns = .mk (ns 0).1 n.label (some l) n.kids (ns 0).2 := fun ns => by rw [insN, dif_pos h0]
  have ef : findN n rest = n.leaf := by rw [findN, dif_pos h0]
  rw [ef]
  have HE := Aside0.mk ei
  subst e0
  have HK0 := Aside0.mk (And.intro hk0 hs0)
  clear hn hn0 ho hl h0 ei ef hb0 hlf hks hk0 hs0
  unfold ptr
  go_enter Try.func77, Try.ntmps77
  go_wp2_with (go_at_call 97; refine q1.out.mono ?_)
  rintro e w1 ⟨b, kv, m, rfl, hf⟩
  have HF := Aside0.mk hf
  have c1' := (Kept.of hf.kept).cell c1
  have k1 : w1.cell? ⟨b, 1, none⟩ = some (leafPtr n.leaf) := by rw [blk_cell hf.blk]; rfl
  have f1 : w1.frozen? ⟨b, 1, none⟩ = false := blk_frozen hf.blk 1
  have hbn : ¬ n.b = b := by have := hf.new; omega
  clear hf q1
  unfold ptr
  go_wp2_with fail
  go_region
  go_wp2_with fail
  go_ret2
  have hf := HF.out
  obtain ⟨hlf, hks, hl, hnb⟩ := HN.out
  have KB : Below w.heap.size w ((w1.setCell ⟨b, 1, none⟩ (.pointer (some ⟨l.b, 0, none⟩))).drew) := by
    have h := kept_set hf.kept b hf.new 1 (.pointer (some ⟨l.b, 0, none⟩))
    exact ⟨h.os, h.tape, h.output, h.size, h.block⟩
  have hKK := Kept.of KB
  obtain ⟨c, hm, hc1, hc2, hc3⟩ := hf.mark
  have hcb : ∀ o t f x, w1.heap[x]? = some o → w1.heap[b]? = some (.cells t 125 f) → (∀ t f, o ≠ .cells t 125 f) → x ≠ b := fun o t f x h1 h2 h3 e => by
    rw [e, h2] at h1
    exact h3 _ _ (Option.some.inj h1).symm
  refine ⟨fun _ => (b, m), rfl, ?_, ⟨fun _ => ⟨hf.new, ?_⟩, fun _ => ⟨c, hm, hc1, ?_, ?_⟩⟩, KB⟩
  · intro w6 hag
    rw [HE.out]
    have K6 : Kept w0 w6 := hag.kept (by have := HK0.out.2; have := KB.size; omega) (HK0.out.1.trans hKK HK0.out.2)
    refine NdAt.mk (kv := kv) ?_ ?_ (hl.keep K6) (NdsAt.keep K6 _ hks) ⟨_, hm⟩
    · have := heap_setCell w1 (g := b) (o := 1) (.pointer (some ⟨l.b, 0, none⟩)) hf.blk
      exact hag.at this (.inr hf.new)
    · have := owns_set hf.row hf.off 1 (.pointer (some ⟨l.b, 0, none⟩))
      exact row_of_owns (hag.owns this)
  · have := (Array.getElem?_eq_some_iff.1 hf.blk).1
    simpa [World.setCell] using this
  · have h := (Below.heap_setCell w1 ⟨b, 1, none⟩ (.pointer (some ⟨l.b, 0, none⟩)) c (hcb _ _ _ c hc2 hf.blk (fun t f e => by cases e))).trans hc2
    exact h
  · have h := (Below.heap_setCell w1 ⟨b, 1, none⟩ (.pointer (some ⟨l.b, 0, none⟩)) (c + 1) (hcb _ _ _ (c + 1) hc3 hf.blk (fun t f e => by unfold watchObj at e; cases e))).trans hc3
    exact h
end Go.Proofs.Ytkaeglnnahecjaa.T
