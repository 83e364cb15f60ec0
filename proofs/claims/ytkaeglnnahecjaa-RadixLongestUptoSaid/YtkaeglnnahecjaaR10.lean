/- radix: insert at memory: further down. -/
import Derived.Test.YtkaeglnnahecjaaR9
set_option linter.unusedVariables false
set_option linter.unusedSimpArgs false
namespace Go.Proofs.Ytkaeglnnahecjaa.T
open Go.RowKit Go.Lib Go.Proofs Go.Proofs.YtkaeglnnahecjaaW.PrintWords

theorem Qt.cell {a b : World} (h : Qt a b) {x : Addr} {v : Value} (hv : a.cell? x = some v) : b.cell? x = some v := h.kept.cell hv
theorem Qt.frozen {a b : World} (h : Qt a b) {x : Addr} {v : Bool} (hv : a.frozen? x = v) : b.frozen? x = v := by unfold World.frozen? at hv ⊢; rw [h.heap]; exact hv
theorem set_cell_ne {w : World} {b g i j : Nat} {v x : Value} (h : w.cell? ⟨b, j, none⟩ = some x) (hne : ¬ b = g) : (w.setCell ⟨g, i, none⟩ v).cell? ⟨b, j, none⟩ = some x := by
  have h2 : (w.setCell ⟨g, i, none⟩ v).heap[b]? = w.heap[b]? := Below.heap_setCell w ⟨g, i, none⟩ v b hne
  unfold World.cell? at h ⊢
  rw [h2]
  exact h
/-- a row of its own that is not empty -/
theorem owns_some {w : World} {base n : Nat} {v : Value} {ps : List Value} (h : w.ownsRow base 58 1 v n ps) (hn : 0 < n) : ∃ g cap cur, v = .slice (some ⟨g, 0, none⟩) n cap ∧ base ≤ g ∧ w.heap[g]? = some (.cells cur 58 (0, 0)) ∧ (∀ j, j < n → cur[j]? = ps[j]?) ∧ n ≤ cap ∧ cap ≤ maxLen ∧ cur.size = cap := by
  have hl : ps.length = n := by simpa using h.1
  rcases h.2 with ⟨rfl, h0⟩ | ⟨g, cap, cur, rfl, hb, hg, hnc, hcm, hcs, ht⟩
  · omega
  · refine ⟨g, cap, cur, rfl, hb, hg, fun j hj => ?_, hnc, hcm, by omega⟩
    have e := List.getElem?_take_of_lt (l := cur.toList) (show j < n * 1 by omega)
    rw [ht] at e
    rw [← Array.getElem?_toList]
    exact e.symm
theorem kidN_some {n k : Nd} {rest : ByteArray} (h : kidN n rest = some k) : hit (n.kids.map fb) (fbS rest) = true ∧ ∃ hi : pos (n.kids.map fb) (fbS rest) < n.kids.length, n.kids[pos (n.kids.map fb) (fbS rest)] = k := by
  unfold kidN at h
  split at h
  · rename_i h1
    have h2 := hit_lt h1
    rw [List.length_map] at h2
    rw [List.getElem?_eq_getElem h2] at h
    exact ⟨h1, h2, Option.some.inj h⟩
  · cases h
theorem insN_b (n : Nd) (rest : ByteArray) (l : Lf) (ns : Sup) : (insN n rest l ns).b = (ns 0).1 := by
  rw [insN]
  split
  · rfl
  · split
    · rfl
    · split <;> rfl
def nsUp (a : Nat × Value) (ns : Sup) : Sup := fun j => if j = 0 then a else ns (j - 1)
theorem nsUp_tail (a : Nat × Value) (ns : Sup) : (fun j => nsUp a ns (j + 1)) = ns := by
  funext j
  simp [nsUp]
theorem deep_close (w0 w w2 w3 w4 : World) (hk0 : Kept w0 w) (hs0 : w0.heap.size ≤ w.heap.size) (n t : Nd) (b g cap i : Nat) (cur : Array Value) (m : Value) (ns : Sup) (hn : NdAt w0 n) (hf : FreshAt w w2 n b (.slice (some ⟨g, 0, none⟩) n.kids.length cap) m) (hQ : Qt w2 w3)
    (hgb : w.heap.size ≤ g) (hgg : w2.heap[g]? = some (.cells cur 58 (0, 0))) (hgc : ∀ j, j < n.kids.length → cur[j]? = (ptrs n.kids)[j]?) (hgn : n.kids.length ≤ cap) (hgm : cap ≤ maxLen) (hgs : cur.size = cap) (hi : i < n.kids.length)
    (h1 : Rob w0.heap.size w3.heap.size w4 t) (h2 : SupOk w3.heap.size w4 ns) (h3 : Below w3.heap.size w3 w4) (htb : t.b = (ns 0).1) :
    Rob w0.heap.size w.heap.size (w4.setCell ⟨g, i, none⟩ (.pointer (some ⟨(ns 0).1, 0, none⟩))) (.mk b n.label n.leaf (n.kids.set i t) m) ∧ SupOk w.heap.size (w4.setCell ⟨g, i, none⟩ (.pointer (some ⟨(ns 0).1, 0, none⟩))) (nsUp (b, m) ns) ∧ Below w.heap.size w (w4.setCell ⟨g, i, none⟩ (.pointer (some ⟨(ns 0).1, 0, none⟩))) := by
  obtain ⟨kv0, hb0, _, hlf, hks⟩ := hn.parts
  have hs23 : w3.heap.size = w2.heap.size := by rw [hQ.heap]
  have hsw := hf.kept.size
  have hbs : b < w2.heap.size := (Array.getElem?_eq_some_iff.1 hf.blk).1
  have hgs2 : g < w2.heap.size := (Array.getElem?_eq_some_iff.1 hgg).1
  have hbg : b ≠ g := fun e => by have h := hf.blk; rw [e, hgg] at h; cases h
  have B4 : Below w.heap.size w w4 := (hf.kept.trans (hQ.below _)).trans ⟨h3.os, h3.tape, h3.output, h3.size, fun k hk => h3.block k (by omega)⟩
  have B5 := kept_set B4 g hgb i (.pointer (some ⟨(ns 0).1, 0, none⟩))
  have up : ∀ {x : Nat} {o : Obj}, w2.heap[x]? = some o → w4.heap[x]? = some o := fun {x o} h => (Kept.of h3).at (by rw [hQ.heap]; exact h)
  have hsz5 : (w4.setCell ⟨g, i, none⟩ (.pointer (some ⟨(ns 0).1, 0, none⟩))).heap.size = w4.heap.size := by simp [World.setCell]
  have hs34 := h3.size
  obtain ⟨c, hm, hc1, hc2, hc3⟩ := hf.mark
  have hcg : c ≠ g := fun e => by rw [e, hgg] at hc2; cases hc2
  have hcg2 : c + 1 ≠ g := fun e => by rw [e, hgg] at hc3; unfold watchObj at hc3; cases hc3
  have hpl : (ptrs n.kids).length = n.kids.length := by simp [ptrs]
  refine ⟨fun w6 hag => ?_, ⟨fun j => ?_, fun j => ?_⟩, B5⟩
  · have K6 : Kept w0 w6 := hag.kept (by have := B5.size; omega) (hk0.trans (Kept.of B5) hs0)
    have ag4 : Ag w0.heap.size w3.heap.size w4 w6 := fun x hx hb => by
      rw [hag x (by rw [hsz5]; exact hx) (by omega)]
      exact Below.heap_setCell w4 ⟨g, i, none⟩ _ x (by show x ≠ g; omega)
    refine NdAt.mk (kv := .slice (some ⟨g, 0, none⟩) n.kids.length cap) (hag.at (set_at (up hf.blk) hbg) (.inr hf.new)) ?_ (hlf.keep K6) ((NdsAt.keep K6 _ hks).set i _ (h1 w6 ag4)) ⟨_, hm⟩
    rw [ptrs_set]
    have hg6 := hag.at (heap_setCell w4 (g := g) (o := i) (.pointer (some ⟨(ns 0).1, 0, none⟩)) (up hgg)) (.inr hgb)
    refine row_of_owns (owns_of (base := w.heap.size) (n := n.kids.length) hgb hg6 hgn hgm (by simpa using hgs) (by simp [hpl]) ?_)
    intro j hj
    by_cases e : j = i
    · subst e
      rw [Array.getElem?_setIfInBounds_self_of_lt (by omega), List.getElem?_set_self (by omega), htb]
      rfl
    · rw [Array.getElem?_setIfInBounds_ne (by omega), List.getElem?_set_ne (by omega), hgc j hj]
  · unfold nsUp
    split
    · rw [hsz5]; exact ⟨hf.new, by show b < _; omega⟩
    · rw [hsz5]; have := h2.new (j - 1); omega
  · unfold nsUp
    split
    · exact ⟨c, hm, hc1, set_at (up hc2) hcg, set_at (up hc3) hcg2⟩
    · obtain ⟨d, e1, e2, e3, e4⟩ := h2.mark (j - 1)
      exact ⟨d, e1, by omega, set_at e3 (by omega), set_at e4 (by omega)⟩
set_option maxHeartbeats 4000000 in
set_option maxRecDepth 100000 in
theorem ins_deep (w0 w : World) (hk0 : Kept w0 w) (hs0 : w0.heap.size ≤ w.heap.size) (n k : Nd) (rest : ByteArray) (l : Lf) (hn0 : NdAt w0 n) (ho : Ok n) (hl : LfAt w0 (some l)) (h0 : 0 < rest.size) (hbig : rest.size < 4000000000000) (hk : kidN n rest = some k) (hp : 0 < comB k.label rest ∧ comB k.label rest = k.label.size) (hlab : k.label.size < 9000000000000000000)
    (IH : ∀ w1, Kept w0 w1 → w0.heap.size ≤ w1.heap.size → Calls Try.prog 77 #[ptr k.b, .string (rest.extract (comB k.label rest) rest.size), ptr l.b] w1 fun e w' => ∃ ns, e = .returned (.tuple #[ptr (ns 0).1, leafPtr (findN k (rest.extract (comB k.label rest) rest.size))]) ∧ Rob w0.heap.size w1.heap.size w' (insN k (rest.extract (comB k.label rest) rest.size) l ns) ∧ SupOk w1.heap.size w' ns ∧ Below w1.heap.size w1 w') :
    Calls Try.prog 77 #[ptr n.b, .string rest, ptr l.b] w fun e w' => ∃ ns, e = .returned (.tuple #[ptr (ns 0).1, leafPtr (findN n rest)]) ∧ Rob w0.heap.size w.heap.size w' (insN n rest l ns) ∧ SupOk w.heap.size w' ns ∧ Below w.heap.size w w' := by
  obtain ⟨hh, hlt, ek⟩ := kidN_some hk
  have hn := NdAt.keep hk0 n hn0
  have q1 := Aside0.mk (fresh w n hn ho.few)
  have q2 := Aside0.mk (fun w1 b kv m hf => kidF w w1 n b kv m hn ho hf (fbS rest) (fbS_lt rest))
  have ex : ((fbS rest : Nat) : Int) = (rest[0].toNat : Int) := by unfold fbS; rw [← byte0 rest h0]
  rw [hh, ex] at q2
  have hfew := ho.few
  have ei : ∀ ns, insN n rest l ns = .mk (ns 0).1 n.label n.leaf (n.kids.set (pos (n.kids.map fb) (fbS rest)) (insN k (rest.extract (comB k.label rest) rest.size) l (fun j => ns (j + 1)))) (ns 0).2 := fun ns => by rw [insN, dif_neg (by omega)]; simp only [hk]; rw [dif_pos hp]
  have ef : findN n rest = findN k (rest.extract (comB k.label rest) rest.size) := by rw [findN, dif_neg (by omega)]; simp only [hk]; rw [dif_pos hp]
  rw [ef]
  obtain ⟨fr, efr⟩ : ∃ fr, leafPtr (findN k (rest.extract (comB k.label rest) rest.size)) = fr := ⟨_, rfl⟩
  rw [efr]
  have hcle := comB_le k.label rest
  have hkAt : ∀ w1, Kept w w1 → NdAt w1 k := fun w1 h => by rw [← ek]; exact NdAt.keep h _ (hn.parts.choose_spec.2.2.2.get _ hlt)
  have HK0 := Aside0.mk (And.intro hk0 hs0)
  obtain ⟨i, hi⟩ : ∃ i, pos (n.kids.map fb) (fbS rest) = i := ⟨_, rfl⟩
  have ep := hp.2
  obtain ⟨len, elen⟩ : ∃ len, n.kids.length = len := ⟨_, rfl⟩
  have hne := full_of rest h0
  have q5 := Aside0.mk (fun w1 => common w1 k.label rest hlab)
  rw [ep] at q5 hcle
  have hle : k.label.size ≤ rest.size := hcle.2
  have hleI : (k.label.size : Int) ≤ (rest.size : Int) := by omega
  rw [hi] at q2
  have hlt' : i < len := by rw [← hi, ← elen]; exact hlt
  have HE := Aside0.mk ei
  have HN := Aside0.mk (And.intro hn0 (And.intro hl (And.intro hkAt (And.intro hi (And.intro ep elen)))))
  have HK := Aside0.mk (And.intro hlt ek)
  have HI := Aside0.mk IH
  rw [efr, ep] at HI
  clear hn hn0 hk0 hs0 ho hl ei ef ex hh hfew hk hi ek IH hkAt efr ep hp hcle
  unfold ptr
  go_enter Try.func77, Try.ntmps77
  go_wp2_with (go_at_call 97; refine q1.out.mono ?_)
  rintro e w1 ⟨b, kv, m, rfl, hf⟩
  have q3 := Aside0.mk (q2.out w1 b kv m hf)
  have HF := Aside0.mk hf
  obtain ⟨g, cap, cur, rfl, hgb, hgg, hgc, hgn, hgm, hgs⟩ := owns_some hf.row (by omega)
  rw [elen] at hf hgc hgn HF
  have k2 : w1.cell? ⟨b, 2, none⟩ = some (.slice (some ⟨g, 0, none⟩) len cap) := by rw [blk_cell hf.blk]; rfl
  have ki : w1.cell? ⟨g, i, none⟩ = some (.pointer (some ⟨k.b, 0, none⟩)) := by
    rw [blk_cell hgg, hgc i hlt']
    have h1 := HK.out
    have h2 := HN.out.2.2.2.1
    obtain ⟨h3, h4⟩ := h1
    simp only [h2] at h3 h4
    simp [ptrs, List.getElem?_eq_getElem h3, h4, ptr]
  have kl : w1.cell? ⟨k.b, 0, none⟩ = some (.string k.label) := by
    obtain ⟨_, hb1, _⟩ := (HN.out.2.2.1 w1 (Kept.of hf.kept)).parts
    rw [blk_cell hb1]; rfl
  have HG := Aside0.mk (And.intro hgb (And.intro hgg (And.intro hgc (And.intro hgn (And.intro hgm hgs)))))
  clear hf q1 q2 hgb hgg hgc hgn hgm hgs
  unfold ptr
  unfold ptr at q3
  go_wp2_with (go_at_call 98; refine q3.out.mono ?_)
  rintro e w2 ⟨rfl, rfl⟩
  clear q3
  go_wp2_with (go_at_call 89; refine (q5.out _).mono ?_)
  rintro e w3 ⟨rfl, hQ⟩
  have k2' := hQ.cell k2
  have ki' := hQ.cell ki
  have kl' := hQ.cell kl
  have HQ := Aside0.mk hQ
  clear hQ q5
  go_wp2_with fail
  have hkept3 := HF.out.kept
  have hs3 : w3.heap.size = w2.heap.size := by rw [HQ.out.heap]
  have K3 : Kept w0 w3 := (HK0.out.1.trans (Kept.of hkept3) HK0.out.2).trans HQ.out.kept (by have := HK0.out.2; have := hkept3.size; omega)
  have hi3 := HI.out w3.drew K3 (by show w0.heap.size ≤ w3.heap.size; have := HK0.out.2; have := hkept3.size; omega)
  have q6 := Aside0.mk hi3
  have hgg3 : w3.heap[g]? = some (.cells cur 58 (0, 0)) := by rw [HQ.out.heap]; exact HG.out.2.1
  have HG3 := Aside0.mk (And.intro K3 (And.intro hgg3 hs3))
  have hbg : ¬ b = g := fun e => by have h1 := HF.out.blk; rw [e, HG.out.2.1] at h1; cases h1
  clear hkept3 hs3 K3 hi3 hgg3 ki kl k2 HI
  unfold ptr at q6
  go_region_held3 (fun w' => w'.cell? ⟨b, 2, none⟩ = some (.slice (some ⟨g, 0, none⟩) len cap))
    (first | exact k2' | exact k4 | exact (set_cell_ne k4 hbg))
    (first
      | (go_at_call 77; refine q6.out.mono ?_; rintro e w4 ⟨ns, rfl, h1, h2, h3⟩; have k4 := (Kept.of h3).cell k2'; have hg4 := (Kept.of h3).at HG3.out.2.1; have f4 : w4.frozen? ⟨g, i, none⟩ = false := blk_frozen hg4 i; have c4 := (Kept.of h3).cell ki'; have H4 := Aside0.mk (And.intro h1 (And.intro h2 (And.intro h3 hg4))); clear h1 h2 h3 hg4))
  go_wp2_with fail
  go_ret2
  obtain ⟨h1, h2, h3, h4⟩ := H4.out
  obtain ⟨hgb, hgg, hgc, hgn, hgm, hgs⟩ := HG.out
  obtain ⟨hn, hl, hkAt, hi, ep, elen'⟩ := HN.out
  subst elen
  have q7 := deep_close w0 w w2 w3 w4 HK0.out.1 HK0.out.2 n _ b g cap i cur m ns hn HF.out HQ.out hgb hgg hgc hgn hgm hgs hlt' h1 h2 ⟨h3.os, h3.tape, h3.output, h3.size, h3.block⟩ (insN_b _ _ _ _)
  refine ⟨nsUp (b, m) ns, rfl, ?_, q7.2.1, q7.2.2⟩
  have e7 := HE.out (nsUp (b, m) ns)
  rw [hi, ep, nsUp_tail] at e7
  rw [e7]
  exact q7.1
end Go.Proofs.Ytkaeglnnahecjaa.T
