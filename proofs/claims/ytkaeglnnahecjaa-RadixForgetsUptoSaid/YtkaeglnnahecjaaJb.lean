/- joined: R9 R10 R11 R12 R13 R14 -/
import Derived.Test.YtkaeglnnahecjaaJa
import Derived.Deep.CutRange
/- radix: insert at memory: a new kid. -/
set_option linter.unusedVariables false
set_option linter.unusedSimpArgs false
namespace Go.Proofs.Ytkaeglnnahecjaa.T
open Go.RowKit Go.Lib Go.Proofs Go.Proofs.YtkaeglnnahecjaaW.PrintWords

/-- the kid's place in the fresh node -/
theorem kidF (w w1 : World) (n : Nd) (b : Nat) (kv m : Value) (hn : NdAt w n) (ho : Ok n) (hf : FreshAt w w1 n b kv m) (x : Nat) (hx : x < 256) :
    Calls Try.prog 98 #[ptr b, .int .u8 x] w1 fun e w' => e = .returned (.tuple #[.int .i64 (pos (n.kids.map fb) x), .bool (hit (n.kids.map fb) x)]) ∧ w' = w1 := by
  obtain ⟨kv0, hb0, _, hlf, hks⟩ := hn.parts
  obtain ⟨hs, hp, hoks⟩ := ho.parts
  exact kidOf w1 b n.label _ kv _ n.kids x hf.blk (row_of_owns hf.row) (NdsAt.keep (Kept.of hf.kept) _ hks) hs hp hx (by have := ho.few; omega)
theorem owns_ne {w : World} {base n x : Nat} {v : Value} {ps : List Value} {o : Obj} (h : w.ownsRow base 58 1 v n ps) (hx : w.heap[x]? = some o) (ho : ∀ cur, o ≠ .cells cur 58 (0, 0)) : v.ownBlock ≠ some x := by
  rcases h.2 with ⟨rfl, _⟩ | ⟨g, cap, cur, rfl, _, hg, _⟩
  · simp [Value.ownBlock]
  · intro e
    simp [Value.ownBlock] at e
    subst e
    rw [hx] at hg
    exact ho cur (Option.some.inj hg)
theorem grown_at {w w' : World} {row : Option Nat} {x : Nat} {o : Obj} (h : w.grownBy w' row) (hx : w.heap[x]? = some o) (hr : row ≠ some x) : w'.heap[x]? = some o :=
  (h.block x (Array.getElem?_eq_some_iff.1 hx).1 (fun e => hr e.symm)).trans hx
theorem alloc_at {w : World} {x : Nat} {o o' : Obj} (hx : w.heap[x]? = some o) : (w.alloc o').heap[x]? = some o := (heap_alloc_old w o' (Array.getElem?_eq_some_iff.1 hx).1).trans hx
theorem set_at {w : World} {x g i : Nat} {o : Obj} {v : Value} (hx : w.heap[x]? = some o) (hne : x ≠ g) : (w.setCell ⟨g, i, none⟩ v).heap[x]? = some o := (Below.heap_setCell w ⟨g, i, none⟩ v x hne).trans hx
/-- a new node of its own: a watch's channel, the watch, the node, and a row of one -/
abbrev tipW (w : World) (label : ByteArray) (lb : Nat) : World :=
  (((w.alloc (.chan 0 #[] false 0 0 false)).alloc (.cells #[.int .u32 0, .int .i32 0, .int .u32 0, .chan (some w.heap.size)] 165)).alloc (.cells #[.string label, .pointer (some ⟨lb, 0, none⟩), .slice none 0 0, .pointer (some ⟨w.heap.size + 1, 0, none⟩)] 125)).alloc (.cells #[.pointer (some ⟨w.heap.size + 1 + 1, 0, none⟩)] 58)
theorem tipW_facts (w : World) (label : ByteArray) (lb : Nat) : (tipW w label lb).heap.size = w.heap.size + 4 ∧ (tipW w label lb).heap[w.heap.size]? = some (.chan 0 #[] false 0 0 false) ∧ (tipW w label lb).heap[w.heap.size + 1]? = some (watchObj w.heap.size) ∧
    (tipW w label lb).heap[w.heap.size + 1 + 1]? = some (.cells #[.string label, .pointer (some ⟨lb, 0, none⟩), .slice none 0 0, .pointer (some ⟨w.heap.size + 1, 0, none⟩)] 125 (0, 0)) ∧ (tipW w label lb).heap[w.heap.size + 1 + 1 + 1]? = some (.cells #[.pointer (some ⟨w.heap.size + 1 + 1, 0, none⟩)] 58 (0, 0)) ∧ Below w.heap.size w (tipW w label lb) := by
  refine ⟨by simp only [tipW, World.size_alloc], ?_, ?_, ?_, ?_, ?_⟩
  · exact alloc_at (alloc_at (alloc_at (heap_alloc_new w _)))
  · refine alloc_at (alloc_at ?_)
    have := heap_alloc_new (w.alloc (.chan 0 #[] false 0 0 false)) (.cells #[.int .u32 0, .int .i32 0, .int .u32 0, .chan (some w.heap.size)] 165)
    rw [World.size_alloc] at this
    exact this
  · refine alloc_at ?_
    have := heap_alloc_new ((w.alloc (.chan 0 #[] false 0 0 false)).alloc (.cells #[.int .u32 0, .int .i32 0, .int .u32 0, .chan (some w.heap.size)] 165)) (.cells #[.string label, .pointer (some ⟨lb, 0, none⟩), .slice none 0 0, .pointer (some ⟨w.heap.size + 1, 0, none⟩)] 125)
    rw [World.size_alloc, World.size_alloc] at this
    exact this
  · have := heap_alloc_new (((w.alloc (.chan 0 #[] false 0 0 false)).alloc (.cells #[.int .u32 0, .int .i32 0, .int .u32 0, .chan (some w.heap.size)] 165)).alloc (.cells #[.string label, .pointer (some ⟨lb, 0, none⟩), .slice none 0 0, .pointer (some ⟨w.heap.size + 1, 0, none⟩)] 125)) (.cells #[.pointer (some ⟨w.heap.size + 1 + 1, 0, none⟩)] 58)
    rw [World.size_alloc, World.size_alloc, World.size_alloc] at this
    exact this
  · exact ((((Below.refl _ w).alloc (Nat.le_refl _) _).alloc (by simp only [World.size_alloc]; omega) _).alloc (by simp only [World.size_alloc]; omega) _).alloc (by simp only [World.size_alloc]; omega) _
/-- a row of its own, carried into the world with the new node, takes it -/
theorem putTip (w : World) (base : Nat) (kv : Value) (n : Nat) (ps : List Value) (i : Nat) (label : ByteArray) (lb : Nat) (hown : w.ownsRow base 58 1 kv n ps) (hi : i ≤ n) (hn : n ≤ 256) (h1c : ∀ u ∈ ps, u.oneCell' = true) (hb : base ≤ w.heap.size) :
    Calls Try.prog 103 #[kv, .int .i64 i, .slice (some ⟨w.heap.size + 1 + 1 + 1, 0, none⟩) 1 1] (tipW w label lb).drew fun e w' => ∃ v', e = .returned v' ∧ w'.ownsRow base 58 1 v' (n + 1) (ps.take i ++ ptr (w.heap.size + 1 + 1) :: ps.drop i) ∧ (tipW w label lb).grownBy w' kv.ownBlock ∧ (v'.ownBlock = kv.ownBlock ∨ v'.ownBlock = some (tipW w label lb).heap.size) := by
  obtain ⟨hs, t1, t2, t3, t4, hbel⟩ := tipW_facts w label lb
  have ho : (tipW w label lb).drew.ownsRow base 58 1 kv n ps := by
    have := (((hown.alloc (.chan 0 #[] false 0 0 false)).alloc (.cells #[.int .u32 0, .int .i32 0, .int .u32 0, .chan (some w.heap.size)] 165)).alloc (.cells #[.string label, .pointer (some ⟨lb, 0, none⟩), .slice none 0 0, .pointer (some ⟨w.heap.size + 1, 0, none⟩)] 125)).alloc (.cells #[.pointer (some ⟨w.heap.size + 1 + 1, 0, none⟩)] 58)
    exact this
  have hne : kv.ownBlock ≠ some (w.heap.size + 1 + 1 + 1) := fun e => by have := (hown.lt _ e).2; omega
  refine (insRow (tipW w label lb).drew base kv n ps i (w.heap.size + 1 + 1 + 1) 1 (ptr (w.heap.size + 1 + 1)) ho hi hn t4 rfl h1c hne (by show base ≤ (tipW w label lb).heap.size; omega)).mono ?_
  rintro e w' ⟨v', rfl, h1, h2, h3⟩
  exact ⟨v', rfl, h1, ⟨h2.os, h2.tape, h2.output, h2.size, h2.block⟩, h3⟩
def ns1 (a b : Nat × Value) : Sup := fun j => if j = 1 then b else a
theorem new_close (w0 w w2 w5 : World) (hk0 : Kept w0 w) (hs0 : w0.heap.size ≤ w.heap.size) (n : Nd) (rest : ByteArray) (l : Lf) (b : Nat) (kv m v' : Value) (i : Nat) (hn : NdAt w0 n) (hl : LfAt w0 (some l)) (hf : FreshAt w w2 n b kv m)
    (ho5 : w5.ownsRow w.heap.size 58 1 v' (n.kids.length + 1) ((ptrs n.kids).take i ++ ptr (w2.heap.size + 1 + 1) :: (ptrs n.kids).drop i)) (hg5 : (tipW w2 rest l.b).grownBy w5 kv.ownBlock) (hat5 : v'.ownBlock = kv.ownBlock ∨ v'.ownBlock = some (tipW w2 rest l.b).heap.size)
    (hb5 : w5.heap[b]? = some (.cells #[.string n.label, leafPtr n.leaf, kv, m] 125 (0, 0))) :
    Rob w0.heap.size w.heap.size (w5.setCell ⟨b, 2, none⟩ v') (.mk b n.label n.leaf (insAt i (tipN rest l (w2.heap.size + 1 + 1, ptr (w2.heap.size + 1))) n.kids) m) ∧ SupOk w.heap.size (w5.setCell ⟨b, 2, none⟩ v') (ns1 (b, m) (w2.heap.size + 1 + 1, ptr (w2.heap.size + 1))) ∧ Below w.heap.size w (w5.setCell ⟨b, 2, none⟩ v') := by
  obtain ⟨hs, t1, t2, t3, t4, hbel⟩ := tipW_facts w2 rest l.b
  obtain ⟨kv0, hb0, _, hlf, hks⟩ := hn.parts
  have hbs : b < w2.heap.size := (Array.getElem?_eq_some_iff.1 hf.blk).1
  have hkvlt := hf.row.lt
  have hne : ∀ x, w2.heap.size ≤ x → kv.ownBlock ≠ some x := fun x hx e => by have := (hkvlt x e).2; omega
  have B5 : Below w.heap.size w w5 := (hf.kept.trans ⟨hbel.os, hbel.tape, hbel.output, hbel.size, fun k hk => hbel.block k (by have := hf.kept.size; omega)⟩).trans (below_grown hg5 (by have := hf.kept.size; omega) (fun k hk => (hkvlt k hk).1))
  have B6 := kept_set B5 b hf.new 2 v'
  have K6 := Kept.of B6
  have hvb : v'.ownBlock ≠ some b := by
    rcases hat5 with e | e
    · rw [e]; exact hf.off
    · rw [e]; intro h; simp at h; omega
  have tip5 := set_at (v := v') (i := 2) (grown_at hg5 t3 (hne _ (by omega))) (show w2.heap.size + 1 + 1 ≠ b by omega)
  have hsz6 : (w5.setCell ⟨b, 2, none⟩ v').heap.size = w5.heap.size := by simp [World.setCell]
  have hsz5 := hg5.size
  obtain ⟨c, hm, hc1, hc2, hc3⟩ := hf.mark
  have c2 := set_at (v := v') (i := 2) (grown_at hg5 ((Kept.of hbel).at hc2) (owns_ne hf.row hc2 (fun cur e => by cases e))) (show c ≠ b from fun e => by rw [e, hf.blk] at hc2; cases hc2)
  have c3 := set_at (v := v') (i := 2) (grown_at hg5 ((Kept.of hbel).at hc3) (owns_ne hf.row hc3 (fun cur e => by unfold watchObj at e; cases e))) (show c + 1 ≠ b from fun e => by rw [e, hf.blk] at hc3; unfold watchObj at hc3; cases hc3)
  have d2 := set_at (v := v') (i := 2) (grown_at hg5 t1 (hne _ (Nat.le_refl _))) (show w2.heap.size ≠ b by omega)
  have d3 := set_at (v := v') (i := 2) (grown_at hg5 t2 (hne _ (by omega))) (show w2.heap.size + 1 ≠ b by omega)
  refine ⟨fun w7 hag => ?_, ⟨fun j => ?_, fun j => ?_⟩, B6⟩
  · have K7 : Kept w0 w7 := hag.kept (by have := B6.size; omega) (hk0.trans K6 hs0)
    refine NdAt.mk (kv := v') ?_ ?_ (hlf.keep K7) ((NdsAt.keep K7 _ hks).insAt i _ ?_) ⟨_, hm⟩
    · exact hag.at (heap_setCell w5 v' hb5) (.inr hf.new)
    · rw [ptrs_insAt]
      exact row_of_owns (hag.owns (owns_set ho5 hvb 2 v'))
    · exact NdAt.mk (kv := .slice none 0 0) (hag.at tip5 (.inr (by have := hf.kept.size; omega))) (.inl ⟨rfl, rfl⟩) (hl.keep K7) (by unfold NdsAt; trivial) ⟨_, rfl⟩
  · unfold ns1
    have := hf.new
    have := hf.kept.size
    split
    · rw [hsz6]; exact ⟨by show _ ≤ w2.heap.size + 1 + 1; omega, by show w2.heap.size + 1 + 1 < _; omega⟩
    · rw [hsz6]; exact ⟨hf.new, by show b < _; omega⟩
  · unfold ns1
    have := hf.kept.size
    split
    · exact ⟨w2.heap.size, rfl, by omega, d2, d3⟩
    · exact ⟨c, hm, hc1, c2, c3⟩
set_option maxHeartbeats 4000000 in
set_option maxRecDepth 100000 in
theorem ins_new (w0 w : World) (hk0 : Kept w0 w) (hs0 : w0.heap.size ≤ w.heap.size) (n : Nd) (rest : ByteArray) (l : Lf) (hn0 : NdAt w0 n) (ho : Ok n) (hl : LfAt w0 (some l)) (h0 : 0 < rest.size) (hk : kidN n rest = none) :
    Calls Try.prog 77 #[ptr n.b, .string rest, ptr l.b] w fun e w' => ∃ ns, e = .returned (.tuple #[ptr (ns 0).1, leafPtr (findN n rest)]) ∧ Rob w0.heap.size w.heap.size w' (insN n rest l ns) ∧ SupOk w.heap.size w' ns ∧ Below w.heap.size w w' := by
  have hn := NdAt.keep hk0 n hn0
  have q1 := Aside0.mk (fresh w n hn ho.few)
  have q2 := Aside0.mk (fun w1 b kv m hf => kidF w w1 n b kv m hn ho hf (fbS rest) (fbS_lt rest))
  have ex : ((fbS rest : Nat) : Int) = (rest[0].toNat : Int) := by unfold fbS; rw [← byte0 rest h0]
  have hh : hit (n.kids.map fb) (fbS rest) = false := by
    cases h : hit (n.kids.map fb) (fbS rest) with
    | false => rfl
    | true =>
      unfold kidN at hk
      rw [h, if_pos rfl] at hk
      have := hit_lt h
      rw [List.length_map] at this
      rw [List.getElem?_eq_getElem this] at hk
      cases hk
  rw [hh, ex] at q2
  have hfew := ho.few
  have hple : pos (n.kids.map fb) (fbS rest) ≤ n.kids.length := by have := pos_le (n.kids.map fb) (fbS rest); rwa [List.length_map] at this
  have ei : ∀ ns, insN n rest l ns = .mk (ns 0).1 n.label n.leaf (insAt (pos (n.kids.map fb) (fbS rest)) (tipN rest l (ns 1)) n.kids) (ns 0).2 := fun ns => by rw [insN, dif_neg (by omega)]; simp only [hk]
  have ef : findN n rest = none := by rw [findN, dif_neg (by omega)]; simp only [hk]
  rw [ef]
  have HE := Aside0.mk ei
  have HN := Aside0.mk (And.intro hn0 (And.intro hl (And.intro hfew hple)))
  have HK0 := Aside0.mk (And.intro hk0 hs0)
  have hne := full_of rest h0
  obtain ⟨i, hi⟩ : ∃ i, pos (n.kids.map fb) (fbS rest) = i := ⟨_, rfl⟩
  rw [hi] at q2
  have HI := Aside0.mk hi
  clear hn hn0 ho hl ei ef ex hh hfew hple hk hi hk0 hs0
  unfold ptr
  go_enter Try.func77, Try.ntmps77
  go_wp2_with (go_at_call 97; refine q1.out.mono ?_)
  rintro e w1 ⟨b, kv, m, rfl, hf⟩
  have q3 := Aside0.mk (q2.out w1 b kv m hf)
  have HF := Aside0.mk hf
  have k2 : w1.cell? ⟨b, 2, none⟩ = some kv := by rw [blk_cell hf.blk]; rfl
  have f2 : w1.frozen? ⟨b, 2, none⟩ = false := blk_frozen hf.blk 2
  clear hf q1 q2
  unfold ptr
  unfold ptr at q3
  go_wp2_with (go_at_call 98; refine q3.out.mono ?_)
  rintro e w2 ⟨rfl, rfl⟩
  clear q3
  go_wp2_with fail
  have q4 := Aside0.mk (putTip w2 w.heap.size kv n.kids.length (ptrs n.kids) i rest l.b HF.out.row (by have := HN.out.2.2.2; rw [HI.out] at this; exact this) HN.out.2.2.1 (fun u hu => by obtain ⟨x, _, rfl⟩ := List.mem_map.1 hu; rfl) HF.out.kept.size)
  have a1 : ∀ o, (w2.alloc o).cell? ⟨b, 2, none⟩ = some kv := fun o => cellA k2
  have a2 : ∀ o o', ((w2.alloc o).alloc o').cell? ⟨b, 2, none⟩ = some kv := fun o o' => cellA (a1 o)
  have a3 : ∀ o o' o'', (((w2.alloc o).alloc o').alloc o'').cell? ⟨b, 2, none⟩ = some kv := fun o o' o'' => cellA (a2 o o')
  have a4 : ∀ o o' o'' o''', ((((w2.alloc o).alloc o').alloc o'').alloc o''').cell? ⟨b, 2, none⟩ = some kv := fun o o' o'' o''' => cellA (a3 o o' o'')
  go_region_with (first
    | (go_at_call 50; refine (watchNew _).mono ?_; rintro e w3 ⟨rfl, rfl⟩; unfold ptr watchObj)
    | (go_at_call 103; refine q4.out.mono ?_; rintro e w5 ⟨v', rfl, ho5, hg5, hat5⟩; obtain ⟨A5, c5, rfl⟩ := owns_form ho5; have hb5 : w5.heap[b]? = some (.cells #[.string n.label, leafPtr n.leaf, kv, m] 125 (0, 0)) := grown_at hg5 ((Kept.of (tipW_facts w2 rest l.b).2.2.2.2.2).at HF.out.blk) HF.out.off; have f5 : w5.frozen? ⟨b, 2, none⟩ = false := blk_frozen hb5 2; have k5 : w5.cell? ⟨b, 2, none⟩ = some kv := (by rw [blk_cell hb5]; rfl); have H5 := Aside0.mk (And.intro ho5 (And.intro hg5 (And.intro hat5 hb5))); clear ho5 hg5 hat5 hb5))
  all_goals go_wp2_with fail
  all_goals go_ret2
  all_goals obtain ⟨h1, h2, h3, h4⟩ := H5.out
  all_goals have q5 := new_close w0 w w2 w5 HK0.out.1 HK0.out.2 n rest l b kv m _ i HN.out.1 HN.out.2.1 HF.out h1 h2 h3 h4
  all_goals exact ⟨ns1 (b, m) (w2.heap.size + 1 + 1, ptr (w2.heap.size + 1)), rfl, by rw [HE.out, HI.out]; exact q5.1, q5.2.1, q5.2.2⟩
end Go.Proofs.Ytkaeglnnahecjaa.T
/- radix: insert at memory: further down. -/
set_option linter.unusedVariables false
set_option linter.unusedSimpArgs false
namespace Go.Proofs.Ytkaeglnnahecjaa.T
open Go.RowKit Go.Lib Go.Proofs Go.Proofs.YtkaeglnnahecjaaW.PrintWords

theorem Qt.cell {a b : World} (h : Qt a b) {x : Addr} {v : Value} (hv : a.cell? x = some v) : b.cell? x = some v := h.kept.cell hv
theorem Qt.frozen {a b : World} (h : Qt a b) {x : Addr} {v : Bool} (hv : a.frozen? x = v) : b.frozen? x = v := by unfold World.frozen? at hv ⊢; rw [h.heap]; exact hv
theorem set_cell_ne {w : World} {b g i j : Nat} {v x : Value} (h : w.cell? ⟨b, j, none⟩ = some x) (hne : ¬ b = g) : (w.setCell ⟨g, i, none⟩ v).cell? ⟨b, j, none⟩ = some x := by
  have h2 : (w.setCell ⟨g, i, none⟩ v).heap[b]? = w.heap[b]? := Below.heap_setCell w ⟨g, i, none⟩ v b hne
  unfold World.cell? at h ⊢
  rw [h2]
  exact h
/-- a row of its own that is not empty -/
theorem owns_some {w : World} {base n : Nat} {v : Value} {ps : List Value} (h : w.ownsRow base 58 1 v n ps) (hn : 0 < n) : ∃ g cap cur, v = .slice (some ⟨g, 0, none⟩) n cap ∧ base ≤ g ∧ w.heap[g]? = some (.cells cur 58 (0, 0)) ∧ (∀ j, j < n → cur[j]? = ps[j]?) ∧ n ≤ cap ∧ cap ≤ maxLen ∧ cur.size = cap := by
  have hl : ps.length = n := by simpa using h.1
  rcases h.2 with ⟨rfl, h0⟩ | ⟨g, cap, cur, rfl, hb, hg, hnc, hcm, hcs, ht⟩
  · omega
  · refine ⟨g, cap, cur, rfl, hb, hg, fun j hj => ?_, hnc, hcm, by omega⟩
    have e := List.getElem?_take_of_lt (l := cur.toList) (show j < n * 1 by omega)
    rw [ht] at e
    rw [← Array.getElem?_toList]
    exact e.symm
theorem kidN_some {n k : Nd} {rest : ByteArray} (h : kidN n rest = some k) : hit (n.kids.map fb) (fbS rest) = true ∧ ∃ hi : pos (n.kids.map fb) (fbS rest) < n.kids.length, n.kids[pos (n.kids.map fb) (fbS rest)] = k := by
  unfold kidN at h
  split at h
  · rename_i h1
    have h2 := hit_lt h1
    rw [List.length_map] at h2
    rw [List.getElem?_eq_getElem h2] at h
    exact ⟨h1, h2, Option.some.inj h⟩
  · cases h
theorem insN_b (n : Nd) (rest : ByteArray) (l : Lf) (ns : Sup) : (insN n rest l ns).b = (ns 0).1 := by
  rw [insN]
  split
  · rfl
  · split
    · rfl
    · split <;> rfl
def nsUp (a : Nat × Value) (ns : Sup) : Sup := fun j => if j = 0 then a else ns (j - 1)
theorem nsUp_tail (a : Nat × Value) (ns : Sup) : (fun j => nsUp a ns (j + 1)) = ns := by
  funext j
  simp [nsUp]
theorem deep_close (w0 w w2 w3 w4 : World) (hk0 : Kept w0 w) (hs0 : w0.heap.size ≤ w.heap.size) (n t : Nd) (b g cap i : Nat) (cur : Array Value) (m : Value) (ns : Sup) (hn : NdAt w0 n) (hf : FreshAt w w2 n b (.slice (some ⟨g, 0, none⟩) n.kids.length cap) m) (hQ : Qt w2 w3)
    (hgb : w.heap.size ≤ g) (hgg : w2.heap[g]? = some (.cells cur 58 (0, 0))) (hgc : ∀ j, j < n.kids.length → cur[j]? = (ptrs n.kids)[j]?) (hgn : n.kids.length ≤ cap) (hgm : cap ≤ maxLen) (hgs : cur.size = cap) (hi : i < n.kids.length)
    (h1 : Rob w0.heap.size w3.heap.size w4 t) (h2 : SupOk w3.heap.size w4 ns) (h3 : Below w3.heap.size w3 w4) (htb : t.b = (ns 0).1) :
    Rob w0.heap.size w.heap.size (w4.setCell ⟨g, i, none⟩ (.pointer (some ⟨(ns 0).1, 0, none⟩))) (.mk b n.label n.leaf (n.kids.set i t) m) ∧ SupOk w.heap.size (w4.setCell ⟨g, i, none⟩ (.pointer (some ⟨(ns 0).1, 0, none⟩))) (nsUp (b, m) ns) ∧ Below w.heap.size w (w4.setCell ⟨g, i, none⟩ (.pointer (some ⟨(ns 0).1, 0, none⟩))) := by
  obtain ⟨kv0, hb0, _, hlf, hks⟩ := hn.parts
  have hs23 : w3.heap.size = w2.heap.size := by rw [hQ.heap]
  have hsw := hf.kept.size
  have hbs : b < w2.heap.size := (Array.getElem?_eq_some_iff.1 hf.blk).1
  have hgs2 : g < w2.heap.size := (Array.getElem?_eq_some_iff.1 hgg).1
  have hbg : b ≠ g := fun e => by have h := hf.blk; rw [e, hgg] at h; cases h
  have B4 : Below w.heap.size w w4 := (hf.kept.trans (hQ.below _)).trans ⟨h3.os, h3.tape, h3.output, h3.size, fun k hk => h3.block k (by omega)⟩
  have B5 := kept_set B4 g hgb i (.pointer (some ⟨(ns 0).1, 0, none⟩))
  have up : ∀ {x : Nat} {o : Obj}, w2.heap[x]? = some o → w4.heap[x]? = some o := fun {x o} h => (Kept.of h3).at (by rw [hQ.heap]; exact h)
  have hsz5 : (w4.setCell ⟨g, i, none⟩ (.pointer (some ⟨(ns 0).1, 0, none⟩))).heap.size = w4.heap.size := by simp [World.setCell]
  have hs34 := h3.size
  obtain ⟨c, hm, hc1, hc2, hc3⟩ := hf.mark
  have hcg : c ≠ g := fun e => by rw [e, hgg] at hc2; cases hc2
  have hcg2 : c + 1 ≠ g := fun e => by rw [e, hgg] at hc3; unfold watchObj at hc3; cases hc3
  have hpl : (ptrs n.kids).length = n.kids.length := by simp [ptrs]
  refine ⟨fun w6 hag => ?_, ⟨fun j => ?_, fun j => ?_⟩, B5⟩
  · have K6 : Kept w0 w6 := hag.kept (by have := B5.size; omega) (hk0.trans (Kept.of B5) hs0)
    have ag4 : Ag w0.heap.size w3.heap.size w4 w6 := fun x hx hb => by
      rw [hag x (by rw [hsz5]; exact hx) (by omega)]
      exact Below.heap_setCell w4 ⟨g, i, none⟩ _ x (by show x ≠ g; omega)
    refine NdAt.mk (kv := .slice (some ⟨g, 0, none⟩) n.kids.length cap) (hag.at (set_at (up hf.blk) hbg) (.inr hf.new)) ?_ (hlf.keep K6) ((NdsAt.keep K6 _ hks).set i _ (h1 w6 ag4)) ⟨_, hm⟩
    rw [ptrs_set]
    have hg6 := hag.at (heap_setCell w4 (g := g) (o := i) (.pointer (some ⟨(ns 0).1, 0, none⟩)) (up hgg)) (.inr hgb)
    refine row_of_owns (owns_of (base := w.heap.size) (n := n.kids.length) hgb hg6 hgn hgm (by simpa using hgs) (by simp [hpl]) ?_)
    intro j hj
    by_cases e : j = i
    · subst e
      rw [Array.getElem?_setIfInBounds_self_of_lt (by omega), List.getElem?_set_self (by omega), htb]
      rfl
    · rw [Array.getElem?_setIfInBounds_ne (by omega), List.getElem?_set_ne (by omega), hgc j hj]
  · unfold nsUp
    split
    · rw [hsz5]; exact ⟨hf.new, by show b < _; omega⟩
    · rw [hsz5]; have := h2.new (j - 1); omega
  · unfold nsUp
    split
    · exact ⟨c, hm, hc1, set_at (up hc2) hcg, set_at (up hc3) hcg2⟩
    · obtain ⟨d, e1, e2, e3, e4⟩ := h2.mark (j - 1)
      exact ⟨d, e1, by omega, set_at e3 (by omega), set_at e4 (by omega)⟩
set_option maxHeartbeats 4000000 in
set_option maxRecDepth 100000 in
theorem ins_deep (w0 w : World) (hk0 : Kept w0 w) (hs0 : w0.heap.size ≤ w.heap.size) (n k : Nd) (rest : ByteArray) (l : Lf) (hn0 : NdAt w0 n) (ho : Ok n) (hl : LfAt w0 (some l)) (h0 : 0 < rest.size) (hbig : rest.size < 4000000000000) (hk : kidN n rest = some k) (hp : 0 < comB k.label rest ∧ comB k.label rest = k.label.size) (hlab : k.label.size < 9000000000000000000)
    (IH : ∀ w1, Kept w0 w1 → w0.heap.size ≤ w1.heap.size → Calls Try.prog 77 #[ptr k.b, .string (rest.extract (comB k.label rest) rest.size), ptr l.b] w1 fun e w' => ∃ ns, e = .returned (.tuple #[ptr (ns 0).1, leafPtr (findN k (rest.extract (comB k.label rest) rest.size))]) ∧ Rob w0.heap.size w1.heap.size w' (insN k (rest.extract (comB k.label rest) rest.size) l ns) ∧ SupOk w1.heap.size w' ns ∧ Below w1.heap.size w1 w') :
    Calls Try.prog 77 #[ptr n.b, .string rest, ptr l.b] w fun e w' => ∃ ns, e = .returned (.tuple #[ptr (ns 0).1, leafPtr (findN n rest)]) ∧ Rob w0.heap.size w.heap.size w' (insN n rest l ns) ∧ SupOk w.heap.size w' ns ∧ Below w.heap.size w w' := by
  obtain ⟨hh, hlt, ek⟩ := kidN_some hk
  have hn := NdAt.keep hk0 n hn0
  have q1 := Aside0.mk (fresh w n hn ho.few)
  have q2 := Aside0.mk (fun w1 b kv m hf => kidF w w1 n b kv m hn ho hf (fbS rest) (fbS_lt rest))
  have ex : ((fbS rest : Nat) : Int) = (rest[0].toNat : Int) := by unfold fbS; rw [← byte0 rest h0]
  rw [hh, ex] at q2
  have hfew := ho.few
  have ei : ∀ ns, insN n rest l ns = .mk (ns 0).1 n.label n.leaf (n.kids.set (pos (n.kids.map fb) (fbS rest)) (insN k (rest.extract (comB k.label rest) rest.size) l (fun j => ns (j + 1)))) (ns 0).2 := fun ns => by rw [insN, dif_neg (by omega)]; simp only [hk]; rw [dif_pos hp]
  have ef : findN n rest = findN k (rest.extract (comB k.label rest) rest.size) := by rw [findN, dif_neg (by omega)]; simp only [hk]; rw [dif_pos hp]
  rw [ef]
  obtain ⟨fr, efr⟩ : ∃ fr, leafPtr (findN k (rest.extract (comB k.label rest) rest.size)) = fr := ⟨_, rfl⟩
  rw [efr]
  have hcle := comB_le k.label rest
  have hkAt : ∀ w1, Kept w w1 → NdAt w1 k := fun w1 h => by rw [← ek]; exact NdAt.keep h _ (hn.parts.choose_spec.2.2.2.get _ hlt)
  have HK0 := Aside0.mk (And.intro hk0 hs0)
  obtain ⟨i, hi⟩ : ∃ i, pos (n.kids.map fb) (fbS rest) = i := ⟨_, rfl⟩
  have ep := hp.2
  obtain ⟨len, elen⟩ : ∃ len, n.kids.length = len := ⟨_, rfl⟩
  have hne := full_of rest h0
  have q5 := Aside0.mk (fun w1 => common w1 k.label rest hlab)
  rw [ep] at q5 hcle
  have hle : k.label.size ≤ rest.size := hcle.2
  have hleI : (k.label.size : Int) ≤ (rest.size : Int) := by omega
  rw [hi] at q2
  have hlt' : i < len := by rw [← hi, ← elen]; exact hlt
  have HE := Aside0.mk ei
  have HN := Aside0.mk (And.intro hn0 (And.intro hl (And.intro hkAt (And.intro hi (And.intro ep elen)))))
  have HK := Aside0.mk (And.intro hlt ek)
  have HI := Aside0.mk IH
  rw [efr, ep] at HI
  clear hn hn0 hk0 hs0 ho hl ei ef ex hh hfew hk hi ek IH hkAt efr ep hp hcle
  unfold ptr
  go_enter Try.func77, Try.ntmps77
  go_wp2_with (go_at_call 97; refine q1.out.mono ?_)
  rintro e w1 ⟨b, kv, m, rfl, hf⟩
  have q3 := Aside0.mk (q2.out w1 b kv m hf)
  have HF := Aside0.mk hf
  obtain ⟨g, cap, cur, rfl, hgb, hgg, hgc, hgn, hgm, hgs⟩ := owns_some hf.row (by omega)
  rw [elen] at hf hgc hgn HF
  have k2 : w1.cell? ⟨b, 2, none⟩ = some (.slice (some ⟨g, 0, none⟩) len cap) := by rw [blk_cell hf.blk]; rfl
  have ki : w1.cell? ⟨g, i, none⟩ = some (.pointer (some ⟨k.b, 0, none⟩)) := by
    rw [blk_cell hgg, hgc i hlt']
    have h1 := HK.out
    have h2 := HN.out.2.2.2.1
    obtain ⟨h3, h4⟩ := h1
    simp only [h2] at h3 h4
    simp [ptrs, List.getElem?_eq_getElem h3, h4, ptr]
  have kl : w1.cell? ⟨k.b, 0, none⟩ = some (.string k.label) := by
    obtain ⟨_, hb1, _⟩ := (HN.out.2.2.1 w1 (Kept.of hf.kept)).parts
    rw [blk_cell hb1]; rfl
  have HG := Aside0.mk (And.intro hgb (And.intro hgg (And.intro hgc (And.intro hgn (And.intro hgm hgs)))))
  clear hf q1 q2 hgb hgg hgc hgn hgm hgs
  unfold ptr
  unfold ptr at q3
  go_wp2_with (go_at_call 98; refine q3.out.mono ?_)
  rintro e w2 ⟨rfl, rfl⟩
  clear q3
  go_wp2_with (go_at_call 89; refine (q5.out _).mono ?_)
  rintro e w3 ⟨rfl, hQ⟩
  have k2' := hQ.cell k2
  have ki' := hQ.cell ki
  have kl' := hQ.cell kl
  have HQ := Aside0.mk hQ
  clear hQ q5
  go_wp2_with fail
  have hkept3 := HF.out.kept
  have hs3 : w3.heap.size = w2.heap.size := by rw [HQ.out.heap]
  have K3 : Kept w0 w3 := (HK0.out.1.trans (Kept.of hkept3) HK0.out.2).trans HQ.out.kept (by have := HK0.out.2; have := hkept3.size; omega)
  have hi3 := HI.out w3.drew K3 (by show w0.heap.size ≤ w3.heap.size; have := HK0.out.2; have := hkept3.size; omega)
  have q6 := Aside0.mk hi3
  have hgg3 : w3.heap[g]? = some (.cells cur 58 (0, 0)) := by rw [HQ.out.heap]; exact HG.out.2.1
  have HG3 := Aside0.mk (And.intro K3 (And.intro hgg3 hs3))
  have hbg : ¬ b = g := fun e => by have h1 := HF.out.blk; rw [e, HG.out.2.1] at h1; cases h1
  clear hkept3 hs3 K3 hi3 hgg3 ki kl k2 HI
  unfold ptr at q6
  go_region_held3 (fun w' => w'.cell? ⟨b, 2, none⟩ = some (.slice (some ⟨g, 0, none⟩) len cap))
    (first | exact k2' | exact k4 | exact (set_cell_ne k4 hbg))
    (first
      | (go_at_call 77; refine q6.out.mono ?_; rintro e w4 ⟨ns, rfl, h1, h2, h3⟩; have k4 := (Kept.of h3).cell k2'; have hg4 := (Kept.of h3).at HG3.out.2.1; have f4 : w4.frozen? ⟨g, i, none⟩ = false := blk_frozen hg4 i; have c4 := (Kept.of h3).cell ki'; have H4 := Aside0.mk (And.intro h1 (And.intro h2 (And.intro h3 hg4))); clear h1 h2 h3 hg4))
  go_wp2_with fail
  go_ret2
  obtain ⟨h1, h2, h3, h4⟩ := H4.out
  obtain ⟨hgb, hgg, hgc, hgn, hgm, hgs⟩ := HG.out
  obtain ⟨hn, hl, hkAt, hi, ep, elen'⟩ := HN.out
  subst elen
  have q7 := deep_close w0 w w2 w3 w4 HK0.out.1 HK0.out.2 n _ b g cap i cur m ns hn HF.out HQ.out hgb hgg hgc hgn hgm hgs hlt' h1 h2 ⟨h3.os, h3.tape, h3.output, h3.size, h3.block⟩ (insN_b _ _ _ _)
  refine ⟨nsUp (b, m) ns, rfl, ?_, q7.2.1, q7.2.2⟩
  have e7 := HE.out (nsUp (b, m) ns)
  rw [hi, ep, nsUp_tail] at e7
  rw [e7]
  exact q7.1
end Go.Proofs.Ytkaeglnnahecjaa.T
/- radix: insert at memory: a kid is split. -/
set_option linter.unusedVariables false
set_option linter.unusedSimpArgs false
namespace Go.Proofs.Ytkaeglnnahecjaa.T
open Go.RowKit Go.Lib Go.Proofs Go.Proofs.YtkaeglnnahecjaaW.PrintWords

theorem com_pos (n k : Nd) (rest : ByteArray) (h : kidN n rest = some k) (hr : 0 < rest.size) (hl : 0 < k.label.size) : 0 < comB k.label rest := by
  obtain ⟨hh, hlt, ek⟩ := kidN_some h
  have h1 := of_decide_eq_true hh
  rw [List.getElem?_eq_getElem (by rw [List.length_map]; exact hlt)] at h1
  have h2 : fb k = fbS rest := by rw [← ek]; simpa using h1
  unfold comB
  have e1 := drop_cons k.label 0 hl
  have e2 := drop_cons rest 0 hr
  rw [List.drop_zero] at e1 e2
  rw [e1, e2]
  unfold com
  have e3 : k.label[0] = rest[0] := by
    apply UInt8.toNat_inj.1
    rw [byte0 k.label hl, byte0 rest hr]
    exact h2
  rw [if_pos e3]
  omega
/-- the middle node, just made over the low one -/
structure MidAt (w w5 : World) (lab : ByteArray) (bl bm g : Nat) (mm : Value) : Prop where
  new : w.heap.size ≤ bm
  blk : w5.heap[bm]? = some (.cells #[.string lab, .pointer none, .slice (some ⟨g, 0, none⟩) 1 1, mm] 125 (0, 0))
  row : w5.ownsRow w.heap.size 58 1 (.slice (some ⟨g, 0, none⟩) 1 1) 1 [ptr bl]
  mark : ∃ c, mm = ptr (c + 1) ∧ w.heap.size ≤ c ∧ w5.heap[c]? = some (.chan 0 #[] false 0 0 false) ∧ w5.heap[c + 1]? = some (watchObj c)
  kept : Below w.heap.size w w5
theorem four_facts (w : World) (o1 o2 o3 o4 : Obj) : ((((w.alloc o1).alloc o2).alloc o3).alloc o4).heap.size = w.heap.size + 4 ∧ ((((w.alloc o1).alloc o2).alloc o3).alloc o4).heap[w.heap.size]? = some o1 ∧ ((((w.alloc o1).alloc o2).alloc o3).alloc o4).heap[w.heap.size + 1]? = some o2 ∧
    ((((w.alloc o1).alloc o2).alloc o3).alloc o4).heap[w.heap.size + 1 + 1]? = some o3 ∧ ((((w.alloc o1).alloc o2).alloc o3).alloc o4).heap[w.heap.size + 1 + 1 + 1]? = some o4 ∧ Below w.heap.size w ((((w.alloc o1).alloc o2).alloc o3).alloc o4) := by
  refine ⟨by simp only [World.size_alloc], ?_, ?_, ?_, ?_, ?_⟩
  · exact alloc_at (alloc_at (alloc_at (heap_alloc_new w _)))
  · refine alloc_at (alloc_at ?_)
    have := heap_alloc_new (w.alloc o1) o2
    rw [World.size_alloc] at this
    exact this
  · refine alloc_at ?_
    have := heap_alloc_new ((w.alloc o1).alloc o2) o3
    rw [World.size_alloc, World.size_alloc] at this
    exact this
  · have := heap_alloc_new (((w.alloc o1).alloc o2).alloc o3) o4
    rw [World.size_alloc, World.size_alloc, World.size_alloc] at this
    exact this
  · exact ((((Below.refl _ w).alloc (Nat.le_refl _) _).alloc (by simp only [World.size_alloc]; omega) _).alloc (by simp only [World.size_alloc]; omega) _).alloc (by simp only [World.size_alloc]; omega) _
theorem MidAt.heap {w w5 w6 : World} {lab : ByteArray} {bl bm g : Nat} {mm : Value} (h : MidAt w w5 lab bl bm g mm) (e : Qt w5 w6) : MidAt w w6 lab bl bm g mm := by
  obtain ⟨c, h1, h2, h3, h4⟩ := h.mark
  refine ⟨h.new, by rw [e.heap]; exact h.blk, ⟨h.row.1, ?_⟩, ⟨c, h1, h2, by rw [e.heap]; exact h3, by rw [e.heap]; exact h4⟩, h.kept.trans (e.below _)⟩
  rcases h.row.2 with h0 | ⟨g', cap, cur, e1, e2, e3, rest⟩
  · exact .inl h0
  · exact .inr ⟨g', cap, cur, e1, e2, by rw [e.heap]; exact e3, rest⟩
theorem midA (w : World) (lab : ByteArray) (bl : Nat) : MidAt w ((((w.alloc (.cells #[.pointer (some ⟨bl, 0, none⟩)] 58)).alloc (.chan 0 #[] false 0 0 false)).alloc (.cells #[.int .u32 0, .int .i32 0, .int .u32 0, .chan (some (w.heap.size + 1))] 165)).alloc (.cells #[.string lab, .pointer none, .slice (some ⟨w.heap.size, 0, none⟩) 1 1, .pointer (some ⟨w.heap.size + 1 + 1, 0, none⟩)] 125)) lab bl (w.heap.size + 1 + 1 + 1) w.heap.size (.pointer (some ⟨w.heap.size + 1 + 1, 0, none⟩)) := by
  obtain ⟨hs, t1, t2, t3, t4, hb⟩ := four_facts w (.cells #[.pointer (some ⟨bl, 0, none⟩)] 58) (.chan 0 #[] false 0 0 false) (.cells #[.int .u32 0, .int .i32 0, .int .u32 0, .chan (some (w.heap.size + 1))] 165) (.cells #[.string lab, .pointer none, .slice (some ⟨w.heap.size, 0, none⟩) 1 1, .pointer (some ⟨w.heap.size + 1 + 1, 0, none⟩)] 125)
  exact ⟨by omega, t4, owns_of (Nat.le_refl _) t1 (Nat.le_refl _) (by decide) rfl rfl (fun j hj => by have : j = 0 := by omega
                                                                                                      subst this; rfl), ⟨w.heap.size + 1, rfl, by omega, t2, t3⟩, hb⟩
theorem midB (w : World) (lab : ByteArray) (bl : Nat) : MidAt w ((((w.alloc (.chan 0 #[] false 0 0 false)).alloc (.cells #[.int .u32 0, .int .i32 0, .int .u32 0, .chan (some w.heap.size)] 165)).alloc (.cells #[.pointer (some ⟨bl, 0, none⟩)] 58)).alloc (.cells #[.string lab, .pointer none, .slice (some ⟨w.heap.size + 1 + 1, 0, none⟩) 1 1, .pointer (some ⟨w.heap.size + 1, 0, none⟩)] 125)) lab bl (w.heap.size + 1 + 1 + 1) (w.heap.size + 1 + 1) (.pointer (some ⟨w.heap.size + 1, 0, none⟩)) := by
  obtain ⟨hs, t1, t2, t3, t4, hb⟩ := four_facts w (.chan 0 #[] false 0 0 false) (.cells #[.int .u32 0, .int .i32 0, .int .u32 0, .chan (some w.heap.size)] 165) (.cells #[.pointer (some ⟨bl, 0, none⟩)] 58) (.cells #[.string lab, .pointer none, .slice (some ⟨w.heap.size + 1 + 1, 0, none⟩) 1 1, .pointer (some ⟨w.heap.size + 1, 0, none⟩)] 125)
  exact ⟨by omega, t4, owns_of (by omega) t3 (Nat.le_refl _) (by decide) rfl rfl (fun j hj => by have : j = 0 := by omega
                                                                                                 subst this; rfl), ⟨w.heap.size, rfl, Nat.le_refl _, t1, t2⟩, hb⟩
def midSeed (lab : ByteArray) (low : Nd) : Nd := .mk 0 lab none [low] (.pointer none)
theorem MidAt.fresh {w w5 : World} {lab : ByteArray} {low : Nd} {bm g : Nat} {mm : Value} (h : MidAt w w5 lab low.b bm g mm) : FreshAt w w5 (midSeed lab low) bm (.slice (some ⟨g, 0, none⟩) 1 1) mm := by
  refine ⟨h.new, h.blk, h.row, fun e => ?_, h.mark, h.kept⟩
  have hg : g = bm := by simpa [Value.ownBlock] using e
  have h1 := h.blk
  obtain ⟨g', cap, cur, e1, _, e2, _⟩ := owns_some h.row (by decide)
  simp at e1
  rw [← e1.1, hg, h1] at e2
  cases e2
/-- the fresh node takes a new kid: it and all beneath it stand from B on -/
theorem new_close2 (B0 B : Nat) (w w2 w5 : World) (hB : B ≤ w.heap.size) (n : Nd) (rest : ByteArray) (l : Lf) (b : Nat) (kv m v' : Value) (i : Nat) (hf : FreshAt w w2 n b kv m)
    (hold : ∀ w7, Ag B0 B (w5.setCell ⟨b, 2, none⟩ v') w7 → LfAt w7 n.leaf ∧ NdsAt w7 n.kids ∧ LfAt w7 (some l))
    (ho5 : w5.ownsRow w.heap.size 58 1 v' (n.kids.length + 1) ((ptrs n.kids).take i ++ ptr (w2.heap.size + 1 + 1) :: (ptrs n.kids).drop i)) (hg5 : (tipW w2 rest l.b).grownBy w5 kv.ownBlock) (hat5 : v'.ownBlock = kv.ownBlock ∨ v'.ownBlock = some (tipW w2 rest l.b).heap.size)
    (hb5 : w5.heap[b]? = some (.cells #[.string n.label, leafPtr n.leaf, kv, m] 125 (0, 0))) :
    Rob B0 B (w5.setCell ⟨b, 2, none⟩ v') (.mk b n.label n.leaf (insAt i (tipN rest l (w2.heap.size + 1 + 1, ptr (w2.heap.size + 1))) n.kids) m) ∧ SupOk w.heap.size (w5.setCell ⟨b, 2, none⟩ v') (ns1 (b, m) (w2.heap.size + 1 + 1, ptr (w2.heap.size + 1))) ∧ Below w.heap.size w (w5.setCell ⟨b, 2, none⟩ v') := by
  obtain ⟨hs, t1, t2, t3, t4, hbel⟩ := tipW_facts w2 rest l.b
  have hbs : b < w2.heap.size := (Array.getElem?_eq_some_iff.1 hf.blk).1
  have hkvlt := hf.row.lt
  have hne : ∀ x, w2.heap.size ≤ x → kv.ownBlock ≠ some x := fun x hx e => by have := (hkvlt x e).2; omega
  have B5 : Below w.heap.size w w5 := (hf.kept.trans ⟨hbel.os, hbel.tape, hbel.output, hbel.size, fun k hk => hbel.block k (by have := hf.kept.size; omega)⟩).trans (below_grown hg5 (by have := hf.kept.size; omega) (fun k hk => (hkvlt k hk).1))
  have B6 := kept_set B5 b hf.new 2 v'
  have hvb : v'.ownBlock ≠ some b := by
    rcases hat5 with e | e
    · rw [e]; exact hf.off
    · rw [e]; intro h; simp at h; omega
  have tip5 := set_at (v := v') (i := 2) (grown_at hg5 t3 (hne _ (by omega))) (show w2.heap.size + 1 + 1 ≠ b by omega)
  have hsz6 : (w5.setCell ⟨b, 2, none⟩ v').heap.size = w5.heap.size := by simp [World.setCell]
  have hsz5 := hg5.size
  obtain ⟨c, hm, hc1, hc2, hc3⟩ := hf.mark
  have c2 := set_at (v := v') (i := 2) (grown_at hg5 ((Kept.of hbel).at hc2) (owns_ne hf.row hc2 (fun cur e => by cases e))) (show c ≠ b from fun e => by rw [e, hf.blk] at hc2; cases hc2)
  have c3 := set_at (v := v') (i := 2) (grown_at hg5 ((Kept.of hbel).at hc3) (owns_ne hf.row hc3 (fun cur e => by unfold watchObj at e; cases e))) (show c + 1 ≠ b from fun e => by rw [e, hf.blk] at hc3; unfold watchObj at hc3; cases hc3)
  have d2 := set_at (v := v') (i := 2) (grown_at hg5 t1 (hne _ (Nat.le_refl _))) (show w2.heap.size ≠ b by omega)
  have d3 := set_at (v := v') (i := 2) (grown_at hg5 t2 (hne _ (by omega))) (show w2.heap.size + 1 ≠ b by omega)
  refine ⟨fun w7 hag => ?_, ⟨fun j => ?_, fun j => ?_⟩, B6⟩
  · obtain ⟨o1, o2, o3⟩ := hold w7 hag
    have hagw : Ag B0 w.heap.size (w5.setCell ⟨b, 2, none⟩ v') w7 := fun x hx hb => hag x hx (by omega)
    refine NdAt.mk (kv := v') ?_ ?_ o1 (o2.insAt i _ ?_) ⟨_, hm⟩
    · exact hag.at (heap_setCell w5 v' hb5) (.inr (by have := hf.new; omega))
    · rw [ptrs_insAt]
      exact row_of_owns (hagw.owns (owns_set ho5 hvb 2 v'))
    · exact NdAt.mk (kv := .slice none 0 0) (hag.at tip5 (.inr (by have := hf.kept.size; omega))) (.inl ⟨rfl, rfl⟩) o3 (by unfold NdsAt; trivial) ⟨_, rfl⟩
  · unfold ns1
    have := hf.new
    have := hf.kept.size
    split
    · rw [hsz6]; exact ⟨by show _ ≤ w2.heap.size + 1 + 1; omega, by show w2.heap.size + 1 + 1 < _; omega⟩
    · rw [hsz6]; exact ⟨hf.new, by show b < _; omega⟩
  · unfold ns1
    have := hf.kept.size
    split
    · exact ⟨w2.heap.size, rfl, by omega, d2, d3⟩
    · exact ⟨c, hm, hc1, c2, c3⟩
/-- the fresh node takes a leaf -/
theorem leaf_close2 (B0 B : Nat) (w w1 : World) (hB : B ≤ w.heap.size) (n : Nd) (l : Lf) (b : Nat) (kv m : Value) (hf : FreshAt w w1 n b kv m)
    (hold : ∀ w7, Ag B0 B (w1.setCell ⟨b, 1, none⟩ (.pointer (some ⟨l.b, 0, none⟩))) w7 → NdsAt w7 n.kids ∧ LfAt w7 (some l)) :
    Rob B0 B (w1.setCell ⟨b, 1, none⟩ (.pointer (some ⟨l.b, 0, none⟩))) (.mk b n.label (some l) n.kids m) ∧ SupOk w.heap.size (w1.setCell ⟨b, 1, none⟩ (.pointer (some ⟨l.b, 0, none⟩))) (fun _ => (b, m)) ∧ Below w.heap.size w (w1.setCell ⟨b, 1, none⟩ (.pointer (some ⟨l.b, 0, none⟩))) := by
  have KB := kept_set hf.kept b hf.new 1 (.pointer (some ⟨l.b, 0, none⟩))
  obtain ⟨c, hm, hc1, hc2, hc3⟩ := hf.mark
  have n1 : c ≠ b := fun e => by rw [e, hf.blk] at hc2; cases hc2
  have n2 : c + 1 ≠ b := fun e => by rw [e, hf.blk] at hc3; unfold watchObj at hc3; cases hc3
  refine ⟨fun w7 hag => ?_, ⟨fun j => ⟨hf.new, ?_⟩, fun j => ⟨c, hm, hc1, set_at hc2 n1, set_at hc3 n2⟩⟩, KB⟩
  · obtain ⟨o2, o3⟩ := hold w7 hag
    have hagw : Ag B0 w.heap.size (w1.setCell ⟨b, 1, none⟩ (.pointer (some ⟨l.b, 0, none⟩))) w7 := fun x hx hb => hag x hx (by omega)
    refine NdAt.mk (kv := kv) ?_ ?_ o3 o2 ⟨_, hm⟩
    · exact hag.at (heap_setCell w1 (g := b) (o := 1) (.pointer (some ⟨l.b, 0, none⟩)) hf.blk) (.inr (by have := hf.new; omega))
    · exact row_of_owns (hagw.owns (owns_set hf.row hf.off 1 (.pointer (some ⟨l.b, 0, none⟩))))
  · have := (Array.getElem?_eq_some_iff.1 hf.blk).1
    simpa [World.setCell] using this
set_option maxHeartbeats 4000000 in
set_option maxRecDepth 100000 in
theorem ins_split (w0 w : World) (hk0 : Kept w0 w) (hs0 : w0.heap.size ≤ w.heap.size) (n k : Nd) (rest : ByteArray) (l : Lf) (hn0 : NdAt w0 n) (ho : Ok n) (hl : LfAt w0 (some l)) (h0 : 0 < rest.size) (hbig : rest.size < 4000000000000) (hk : kidN n rest = some k) (hp : ¬ (0 < comB k.label rest ∧ comB k.label rest = k.label.size)) (hlab : k.label.size < 4000000000000) :
    Calls Try.prog 77 #[ptr n.b, .string rest, ptr l.b] w fun e w' => ∃ ns, e = .returned (.tuple #[ptr (ns 0).1, leafPtr (findN n rest)]) ∧ Rob w0.heap.size w.heap.size w' (insN n rest l ns) ∧ SupOk w.heap.size w' ns ∧ Below w.heap.size w w' := by
  obtain ⟨hh, hlt, ek⟩ := kidN_some hk
  have hn := NdAt.keep hk0 n hn0
  have q1 := Aside0.mk (fresh w n hn ho.few)
  have q2 := Aside0.mk (fun w1 b kv m hf => kidF w w1 n b kv m hn ho hf (fbS rest) (fbS_lt rest))
  have ex : ((fbS rest : Nat) : Int) = (rest[0].toNat : Int) := by unfold fbS; rw [← byte0 rest h0]
  rw [hh, ex] at q2
  have hfew := ho.few
  have ei : ∀ ns, insN n rest l ns = .mk (ns 0).1 n.label n.leaf (n.kids.set (pos (n.kids.map fb) (fbS rest)) (splitN k (comB k.label rest) rest l ns)) (ns 0).2 := fun ns => by rw [insN, dif_neg (by omega)]; simp only [hk]; rw [dif_neg hp]
  have ef : findN n rest = none := by rw [findN, dif_neg (by omega)]; simp only [hk]; rw [dif_neg hp]
  rw [ef]
  have hcle := comB_le k.label rest
  have hkm : k ∈ n.kids := by rw [← ek]; exact List.getElem_mem _
  have hkl := ho.parts.2.1 k hkm
  have hcp := com_pos n k rest hk h0 hkl
  have hkAt : NdAt w0 k := by rw [← ek]; exact hn0.parts.choose_spec.2.2.2.get _ hlt
  have HK0 := Aside0.mk (And.intro hk0 hs0)
  obtain ⟨i, hi⟩ : ∃ i, pos (n.kids.map fb) (fbS rest) = i := ⟨_, rfl⟩
  obtain ⟨p, ep⟩ : ∃ p, comB k.label rest = p := ⟨_, rfl⟩
  obtain ⟨len, elen⟩ : ∃ len, n.kids.length = len := ⟨_, rfl⟩
  have hne := full_of rest h0
  have q5 := Aside0.mk (fun w1 => common w1 k.label rest (by omega))
  rw [ep] at q5 hcle hcp hp
  have hpl : p < k.label.size := by omega
  have hplI : (p : Int) ≤ (k.label.size : Int) := by omega
  have hpr : p ≤ rest.size := hcle.2
  have hprI : (p : Int) ≤ (rest.size : Int) := by omega
  have hpne : ¬ ((p : Int) = (k.label.size : Int)) := by omega
  rw [hi] at q2
  have hlt' : i < len := by rw [← hi, ← elen]; exact hlt
  have HE := Aside0.mk ei
  have HN := Aside0.mk (And.intro hn0 (And.intro hl (And.intro hkAt (And.intro hi (And.intro ep (And.intro elen (And.intro hcp ho)))))))
  have HK := Aside0.mk (And.intro hlt ek)
  clear hn hn0 hk0 hs0 ho hl ei ef ex hh hfew hk hi ek hkAt ep hp hcle hkm hkl hcp
  unfold ptr
  go_enter Try.func77, Try.ntmps77
  go_wp2_with (go_at_call 97; refine q1.out.mono ?_)
  rintro e w1 ⟨b, kv, m, rfl, hf⟩
  have q3 := Aside0.mk (q2.out w1 b kv m hf)
  have HF := Aside0.mk hf
  obtain ⟨g, cap, cur, rfl, hgb, hgg, hgc, hgn, hgm, hgs⟩ := owns_some hf.row (by omega)
  rw [elen] at hf hgc hgn HF
  have k2 : w1.cell? ⟨b, 2, none⟩ = some (.slice (some ⟨g, 0, none⟩) len cap) := by rw [blk_cell hf.blk]; rfl
  have ki : w1.cell? ⟨g, i, none⟩ = some (.pointer (some ⟨k.b, 0, none⟩)) := by
    rw [blk_cell hgg, hgc i hlt']
    have h1 := HK.out
    have h2 := HN.out.2.2.2.1
    obtain ⟨h3, h4⟩ := h1
    simp only [h2] at h3 h4
    simp [ptrs, List.getElem?_eq_getElem h3, h4, ptr]
  have hk1 := HN.out.2.2.1
  have K1 := HK0.out.1.trans (Kept.of hf.kept) HK0.out.2
  obtain ⟨kvk, hbk0, hrk, hlk, hksk⟩ := hk1.parts
  obtain ⟨mb, emk⟩ := hk1.markP
  have hbk := K1.at hbk0
  obtain ⟨lp, elp⟩ := leafPtr_form k.leaf
  obtain ⟨Ak, ck, rfl, _⟩ := hrk.open
  obtain ⟨lk, elk⟩ : ∃ lk, (ptrs k.kids).length = lk := ⟨_, rfl⟩
  rw [emk, elp, elk] at hbk
  unfold ptr at hbk
  have kl : w1.cell? ⟨k.b, 0, none⟩ = some (.string k.label) := by rw [blk_cell hbk]; rfl
  have kl1 : w1.cell? ⟨k.b, 1, none⟩ = some (.pointer lp) := by rw [blk_cell hbk]; rfl
  have kl2 : w1.cell? ⟨k.b, 2, none⟩ = some (.slice Ak lk ck) := by rw [blk_cell hbk]; rfl
  have kl3 : w1.cell? ⟨k.b, 3, none⟩ = some (.pointer (some ⟨mb, 0, none⟩)) := by rw [blk_cell hbk]; rfl
  have HG := Aside0.mk (And.intro hgb (And.intro hgg (And.intro hgc (And.intro hgn (And.intro hgm hgs)))))
  have HKB := Aside0.mk (And.intro hbk (And.intro hrk (And.intro emk (And.intro elp (And.intro elk (And.intro hlk hksk))))))
  clear hf q1 q2 hgb hgg hgc hgn hgm hgs hk1 hbk hbk0 hrk emk elp elk K1 hlk hksk
  unfold ptr
  unfold ptr at q3
  go_wp2_with (go_at_call 98; refine q3.out.mono ?_)
  rintro e w2 ⟨rfl, rfl⟩
  clear q3
  go_wp2_with (go_at_call 89; refine (q5.out _).mono ?_)
  rintro e w3 ⟨rfl, hQ⟩
  have k2' := hQ.cell k2
  have ki' := hQ.cell ki
  have kl' := hQ.cell kl
  have kl1' := hQ.cell kl1
  have kl2' := hQ.cell kl2
  have kl3' := hQ.cell kl3
  have HQ := Aside0.mk hQ
  clear hQ q5 k2 ki kl kl1 kl2 kl3
  go_wp2_with fail
  go_region_held3 (fun w' => w'.cell? ⟨k.b, 0, none⟩ = some (.string k.label) ∧ w'.cell? ⟨k.b, 1, none⟩ = some (.pointer lp) ∧ w'.cell? ⟨k.b, 2, none⟩ = some (.slice Ak lk ck) ∧ w'.cell? ⟨k.b, 3, none⟩ = some (.pointer (some ⟨mb, 0, none⟩)))
    (first | exact ⟨kl', kl1', kl2', kl3'⟩ | exact ⟨cellA kl', cellA kl1', cellA kl2', cellA kl3'⟩) (fail)
  go_upto_region 16 with fail
  go_cut [15] from 113 to 120 (fun s15 wx => ∃ (bm g5 : Nat) (mm : Value), s15 = .pointer (some ⟨bm, 0, none⟩) ∧ Aside0 (MidAt (w3.alloc (.cells #[.string (k.label.extract p k.label.size), .pointer lp, .slice Ak lk ck, .pointer (some ⟨mb, 0, none⟩)] 125)) wx (rest.extract 0 p) w3.heap.size bm g5 mm))
  case first =>
    go_region_with (go_at_call 50; refine (watchNew _).mono ?_; rintro e w' ⟨rfl, rfl⟩; unfold ptr watchObj)
    all_goals (go_wp2_with fail; go_meet)
    · have hA := midA (w3.alloc (.cells #[.string (k.label.extract p k.label.size), .pointer lp, .slice Ak lk ck, .pointer (some ⟨mb, 0, none⟩)] 125)) (rest.extract 0 p) w3.heap.size
      simp only [World.size_alloc] at hA
      exact ⟨_, _, _, rfl, ⟨hA.heap ⟨rfl, rfl, rfl, rfl⟩⟩⟩
    · have hA := midB (w3.alloc (.cells #[.string (k.label.extract p k.label.size), .pointer lp, .slice Ak lk ck, .pointer (some ⟨mb, 0, none⟩)] 125)) (rest.extract 0 p) w3.heap.size
      simp only [World.size_alloc] at hA
      exact ⟨_, _, _, rfl, ⟨hA.heap ⟨rfl, rfl, rfl, rfl⟩⟩⟩
  case rest =>
    obtain ⟨bm, g5, mm, rfl, HM⟩ := hcut
    obtain ⟨hbk0, hrk, emk, elp, elk, hlk, hksk⟩ := HKB.out
    have hM := HM.out
    have hs3 : w3.heap.size = w2.heap.size := by rw [HQ.out.heap]
    have hsw := HF.out.kept.size
    have hsM := hM.kept.size
    simp only [World.size_alloc] at hsM
    have hbmn := hM.new
    simp only [World.size_alloc] at hbmn
    have hbs : b < w2.heap.size := (Array.getElem?_eq_some_iff.1 HF.out.blk).1
    have hgs2 : g < w2.heap.size := (Array.getElem?_eq_some_iff.1 HG.out.2.1).1
    have K3c : Kept w3 wc := Kept.trans (b := w3.alloc (.cells #[.string (k.label.extract p k.label.size), .pointer lp, .slice Ak lk ck, .pointer (some ⟨mb, 0, none⟩)] 125)) (Kept.of ((Below.refl _ w3).alloc (Nat.le_refl _) _)) (Kept.of hM.kept) (by simp only [World.size_alloc]; omega)
    have up : ∀ {x : Nat} {o : Obj}, w2.heap[x]? = some o → wc.heap[x]? = some o := fun {x o} h => K3c.at (by rw [HQ.out.heap]; exact h)
    have lowAt := (Kept.of hM.kept).at (heap_alloc_new w3 (.cells #[.string (k.label.extract p k.label.size), .pointer lp, .slice Ak lk ck, .pointer (some ⟨mb, 0, none⟩)] 125))
    have B3c : Below w3.heap.size w3 wc := ((Below.refl _ w3).alloc (Nat.le_refl _) _).trans ⟨hM.kept.os, hM.kept.tape, hM.kept.output, hM.kept.size, fun x hx => hM.kept.block x (by simp only [World.size_alloc]; omega)⟩
    have K0c : Kept w0 wc := ((HK0.out.1.trans (Kept.of HF.out.kept) HK0.out.2).trans HQ.out.kept (by have := HK0.out.2; omega)).trans K3c (by have := HK0.out.2; omega)
    have kb2 : wc.cell? ⟨b, 2, none⟩ = some (.slice (some ⟨g, 0, none⟩) len cap) := by rw [blk_cell (up HF.out.blk)]; rfl
    have kgi := K3c.cell ki'
    have fgi : wc.frozen? ⟨g, i, none⟩ = false := blk_frozen (up HG.out.2.1) i
    have kbm1 : wc.cell? ⟨bm, 1, none⟩ = some (.pointer none) := by rw [blk_cell hM.blk]; rfl
    have fbm1 : wc.frozen? ⟨bm, 1, none⟩ = false := blk_frozen hM.blk 1
    have kbm2 : wc.cell? ⟨bm, 2, none⟩ = some (.slice (some ⟨g5, 0, none⟩) 1 1) := by rw [blk_cell hM.blk]; rfl
    have fbm2 : wc.frozen? ⟨bm, 2, none⟩ = false := blk_frozen hM.blk 2
    have nbm : ¬ b = bm := by omega
    have ngm : ¬ g = bm := by omega
    have nbm' : ¬ bm = b := by omega
    have ngm' : ¬ bm = g := by omega
    -- the low node stands
    have hrk' : Row w0 (.slice Ak lk ck) (ptrs k.kids) := by rw [← elk]; exact hrk
    have lowOk : ∀ (w4 w7 : World), Ag w0.heap.size w3.heap.size w4 w7 → Kept w0 w4 → w0.heap.size ≤ w4.heap.size → w4.heap[w3.heap.size]? = some (.cells #[.string (k.label.extract p k.label.size), .pointer lp, .slice Ak lk ck, .pointer (some ⟨mb, 0, none⟩)] 125 (0, 0)) → NdsAt w7 [lowN k p w3.heap.size] ∧ LfAt w7 (some l) := fun w4 w7 hag h1 h2 h3 => by
      have K7 := hag.kept h2 h1
      refine ⟨?_, HN.out.2.1.keep K7⟩
      unfold NdsAt
      refine ⟨NdAt.mk (kv := .slice Ak lk ck) ?_ (hrk'.keep K7) (hlk.keep K7) (NdsAt.keep K7 _ hksk) ⟨mb, emk⟩, by unfold NdsAt; trivial⟩
      rw [elp, emk]
      exact hag.at h3 (.inr (Nat.le_refl _))
    have HUP := Aside0.mk (And.intro hs3 (And.intro hsw (And.intro hsM (And.intro hbmn (And.intro K3c (And.intro lowAt (And.intro B3c (And.intro K0c lowOk))))))))
    have HUP2 := Aside0.mk (fun (x : Nat) (o : Obj) => up (x := x) (o := o))
    have HKB2 := Aside0.mk (And.intro hbk0 (And.intro hrk (And.intro emk (And.intro elp (And.intro elk (And.intro hlk hksk))))))
    clear hbk0 hrk hrk' emk elp elk hlk hksk hM hs3 hsw hsM hbmn hbs hgs2 K3c lowAt B3c K0c lowOk up ki' kl' kl1' kl2' kl3' HKB k2'
    by_cases hpe : p = rest.size
    · subst hpe
      go_wp2_with fail
      go_ret2
      obtain ⟨hs3, hsw, hsM, hbmn, K3c, lowAt, B3c, K0c, lowOk⟩ := HUP.out
      have hw4s : ∀ v, (wc.setCell ⟨bm, 1, none⟩ v).heap.size = wc.heap.size := fun v => by simp [World.setCell]
      have hcl := leaf_close2 w0.heap.size w3.heap.size (w3.alloc (.cells #[.string (k.label.extract rest.size k.label.size), .pointer lp, .slice Ak lk ck, .pointer (some ⟨mb, 0, none⟩)] 125)) wc (by simp only [World.size_alloc]; omega) (midSeed (rest.extract 0 rest.size) (lowN k rest.size w3.heap.size)) l bm _ mm (MidAt.fresh (low := lowN k rest.size w3.heap.size) HM.out)
        (fun w7 hag => lowOk _ w7 hag (fun x hx => (Below.heap_setCell _ _ _ x (by show x ≠ bm; have := HK0.out.2; omega)).trans (K0c x hx)) (by rw [hw4s]; have := HK0.out.2; omega) (set_at lowAt (by omega)))
      obtain ⟨c1, c2, c3⟩ := hcl
      obtain ⟨hgb, hgg, hgc, hgn, hgm, hgs⟩ := HG.out
      obtain ⟨hn, hl, hkAt, hi, ep, elen', hcp, ho⟩ := HN.out
      subst elen
      have sup : SupOk w3.heap.size (wc.setCell ⟨bm, 1, none⟩ (.pointer (some ⟨l.b, 0, none⟩))) (fun j => if j = 1 then (w3.heap.size, mm) else (bm, mm)) := by
        refine ⟨fun j => ?_, fun j => ?_⟩
        · split
          · exact ⟨Nat.le_refl _, by rw [hw4s]; show w3.heap.size < _; omega⟩
          · have h := c2.new 0
            simp only [World.size_alloc] at h
            exact ⟨by show _ ≤ bm; omega, h.2⟩
        · obtain ⟨d, e1, e2, e3, e4⟩ := c2.mark 0
          simp only [World.size_alloc] at e2
          split
          · exact ⟨d, e1, by omega, e3, e4⟩
          · exact ⟨d, e1, by omega, e3, e4⟩
      have B34 : Below w3.heap.size w3 (wc.setCell ⟨bm, 1, none⟩ (.pointer (some ⟨l.b, 0, none⟩))) := kept_set B3c bm (by omega) 1 _
      have q7 := deep_close w0 w w2 w3 (wc.setCell ⟨bm, 1, none⟩ (.pointer (some ⟨l.b, 0, none⟩))) HK0.out.1 HK0.out.2 n _ b g cap i cur m _ hn HF.out HQ.out hgb hgg hgc hgn hgm hgs hlt' c1 sup B34 rfl
      refine ⟨nsUp (b, m) (fun j => if j = 1 then (w3.heap.size, mm) else (bm, mm)), rfl, ?_, q7.2.1, q7.2.2⟩
      have e7 := HE.out (nsUp (b, m) (fun j => if j = 1 then (w3.heap.size, mm) else (bm, mm)))
      rw [hi, ep] at e7
      rw [e7]
      unfold splitN
      rw [if_pos rfl]
      exact q7.1
    · have hpeI : ¬ ((p : Int) = (rest.size : Int)) := by omega
      have hplt : p < rest.size := by omega
      have ex2 : ((fbAt rest p : Nat) : Int) = (rest[p].toNat : Int) := by unfold fbAt; rw [← byteAt rest p hplt]
      have hlowlab : 0 < (lowN k p w3.heap.size).label.size := by
        show 0 < (k.label.extract p k.label.size).size
        simp only [ByteArray.size_extract]
        omega
      have qk := kidOf wc bm (rest.extract 0 p) (.pointer none) (.slice (some ⟨g5, 0, none⟩) 1 1) mm [lowN k p w3.heap.size] (fbAt rest p) HM.out.blk (row_of_owns HM.out.row)
        ((HUP.out.2.2.2.2.2.2.2.2 wc wc (Ag.refl _ _ _) HUP.out.2.2.2.2.2.2.2.1 (by have h := HUP.out; have := HK0.out.2; omega) HUP.out.2.2.2.2.2.1).1) (by simp) (by simpa using hlowlab) (UInt8.toNat_lt _) (by simp)
      rw [ex2] at qk
      obtain ⟨j, ej⟩ : ∃ j, pos ([lowN k p w3.heap.size].map fb) (fbAt rest p) = j := ⟨_, rfl⟩
      obtain ⟨hb2, ehb⟩ : ∃ hb2, hit ([lowN k p w3.heap.size].map fb) (fbAt rest p) = hb2 := ⟨_, rfl⟩
      rw [ej, ehb] at qk
      have hj1 : j ≤ 1 := by rw [← ej]; exact pos_le _ _
      have HJ := Aside0.mk (And.intro ej (And.intro ehb (And.intro hj1 hplt)))
      unfold ptr at qk
      have q8 := Aside0.mk qk
      have q4 := Aside0.mk (putTip wc (w3.alloc (.cells #[.string (k.label.extract p k.label.size), .pointer lp, .slice Ak lk ck, .pointer (some ⟨mb, 0, none⟩)] 125)).heap.size (.slice (some ⟨g5, 0, none⟩) 1 1) 1 [ptr w3.heap.size] j (rest.extract p rest.size) l.b HM.out.row hj1 (by omega) (fun u hu => by rw [List.mem_singleton] at hu; rw [hu]; rfl) HM.out.kept.size)
      clear ej ehb hj1 qk ex2 hlowlab
      go_wp2_with (go_at_call 98; refine q8.out.mono ?_)
      rintro e wd ⟨rfl, hwd⟩
      subst hwd
      clear q8
      go_upto_region 20 with fail
      have a1 : ∀ o, (wd.alloc o).cell? ⟨bm, 2, none⟩ = some (.slice (some ⟨g5, 0, none⟩) 1 1) := fun o => cellA kbm2
      have a2 : ∀ o o', ((wd.alloc o).alloc o').cell? ⟨bm, 2, none⟩ = some (.slice (some ⟨g5, 0, none⟩) 1 1) := fun o o' => cellA (a1 o)
      have a3 : ∀ o o' o2, (((wd.alloc o).alloc o').alloc o2).cell? ⟨bm, 2, none⟩ = some (.slice (some ⟨g5, 0, none⟩) 1 1) := fun o o' o2 => cellA (a2 o o')
      have a4 : ∀ o o' o2 o3, ((((wd.alloc o).alloc o').alloc o2).alloc o3).cell? ⟨bm, 2, none⟩ = some (.slice (some ⟨g5, 0, none⟩) 1 1) := fun o o' o2 o3 => cellA (a3 o o' o2)
      go_cut [] from 137 to 153 (fun wx => ∃ (w5 : World) (v' : Value), Aside0 (w5.ownsRow (w3.alloc (.cells #[.string (k.label.extract p k.label.size), .pointer lp, .slice Ak lk ck, .pointer (some ⟨mb, 0, none⟩)] 125)).heap.size 58 1 v' 2 (([ptr w3.heap.size] : List Value).take j ++ ptr (wd.heap.size + 1 + 1) :: ([ptr w3.heap.size] : List Value).drop j) ∧
        (tipW wd (rest.extract p rest.size) l.b).grownBy w5 (some g5) ∧ (v'.ownBlock = some g5 ∨ v'.ownBlock = some (tipW wd (rest.extract p rest.size) l.b).heap.size) ∧ w5.heap[bm]? = some (.cells #[.string (rest.extract 0 p), .pointer none, .slice (some ⟨g5, 0, none⟩) 1 1, mm] 125 (0, 0))) ∧ wx = w5.setCell ⟨bm, 2, none⟩ v')
      case first =>
        go_region_with (first
          | (go_at_call 50; refine (watchNew _).mono ?_; rintro e wz ⟨rfl, rfl⟩; unfold ptr watchObj)
          | (go_at_call 103; refine q4.out.mono ?_; rintro e w5 ⟨v', rfl, ho5, hg5, hat5⟩; obtain ⟨A5, c5, rfl⟩ := owns_form ho5; have hb5 : w5.heap[bm]? = some (.cells #[.string (rest.extract 0 p), .pointer none, .slice (some ⟨g5, 0, none⟩) 1 1, mm] 125 (0, 0)) := grown_at hg5 ((Kept.of (tipW_facts wd (rest.extract p rest.size) l.b).2.2.2.2.2).at HM.out.blk) (MidAt.fresh (low := lowN k p w3.heap.size) HM.out).off; have f5 : w5.frozen? ⟨bm, 2, none⟩ = false := blk_frozen hb5 2; have k5 : w5.cell? ⟨bm, 2, none⟩ = some (.slice (some ⟨g5, 0, none⟩) 1 1) := (by rw [blk_cell hb5]; rfl); have H5 := Aside0.mk (And.intro ho5 (And.intro hg5 (And.intro hat5 hb5))); clear ho5 hg5 hat5 hb5))
        all_goals (go_wp2_with fail; go_meet)
        all_goals exact ⟨w5, _, H5, rfl⟩
      case rest =>
        obtain ⟨w5, v', H5, rfl⟩ := hcut
        obtain ⟨h1, h2, h3, h4⟩ := H5.out
        have hg5n : w3.heap.size + 1 ≤ g5 := by
          have h := (HM.out.row.lt g5 rfl).1
          simp only [World.size_alloc] at h
          exact h
        have hs3 := HUP.out.1
        have hbs : b < w2.heap.size := (Array.getElem?_eq_some_iff.1 HF.out.blk).1
        have hgs2 : g < w2.heap.size := (Array.getElem?_eq_some_iff.1 HG.out.2.1).1
        have ktip := Kept.of (tipW_facts wd (rest.extract p rest.size) l.b).2.2.2.2.2
        have b5 : w5.heap[b]? = some (.cells #[.string n.label, leafPtr n.leaf, .slice (some ⟨g, 0, none⟩) len cap, m] 125 (0, 0)) := grown_at h2 (ktip.at (HUP2.out _ _ HF.out.blk)) (fun e => by have e' := Option.some.inj e; omega)
        have gg5 : w5.heap[g]? = some (.cells cur 58 (0, 0)) := grown_at h2 (ktip.at (HUP2.out _ _ HG.out.2.1)) (fun e => by have e' := Option.some.inj e; omega)
        have kb5 : w5.cell? ⟨b, 2, none⟩ = some (.slice (some ⟨g, 0, none⟩) len cap) := by rw [blk_cell b5]; rfl
        have fg5 : w5.frozen? ⟨g, i, none⟩ = false := blk_frozen gg5 i
        have kg5 : w5.cell? ⟨g, i, none⟩ = some (.pointer (some ⟨k.b, 0, none⟩)) := by
          rw [blk_cell gg5, ← blk_cell (HUP2.out _ _ HG.out.2.1)]
          exact kgi
        have H5B := Aside0.mk (And.intro b5 (And.intro gg5 (And.intro hg5n (And.intro hs3 (And.intro hbs (And.intro hgs2 ktip))))))
        clear h1 h2 h3 h4 b5 gg5 hg5n hs3 hbs hgs2 ktip a1 a2 a3 a4 kbm1 kbm2 fbm1 fbm2 kb2 kgi fgi
        go_wp2_with fail
        go_ret2
        obtain ⟨h1, h2, h3, h4⟩ := H5.out
        obtain ⟨b5, gg5, hg5n, hs3, hbs, hgs2, ktip⟩ := H5B.out
        obtain ⟨_, hsw, hsM, hbmn, K3c, lowAt, B3c, K0c, lowOk⟩ := HUP.out
        have hw0w := HK0.out.2
        have tsz := (tipW_facts wd (rest.extract p rest.size) l.b).1
        have hsz5 := h2.size
        have hw4s : (w5.setCell ⟨bm, 2, none⟩ v').heap.size = w5.heap.size := by simp [World.setCell]
        have low5 := set_at (v := v') (i := 2) (grown_at h2 (ktip.at lowAt) (fun e => by have e' := Option.some.inj e; omega)) (show w3.heap.size ≠ bm by omega)
        have K05 : Kept w0 (w5.setCell ⟨bm, 2, none⟩ v') := fun x hx => by
          rw [Below.heap_setCell w5 ⟨bm, 2, none⟩ v' x (by show x ≠ bm; omega)]
          rw [h2.block x (by omega) (fun e => by have e' := Option.some.inj e; omega)]
          rw [ktip x (by omega)]
          exact K0c x hx
        have hcl := new_close2 w0.heap.size w3.heap.size (w3.alloc (.cells #[.string (k.label.extract p k.label.size), .pointer lp, .slice Ak lk ck, .pointer (some ⟨mb, 0, none⟩)] 125)) wd w5 (by simp only [World.size_alloc]; omega) (midSeed (rest.extract 0 p) (lowN k p w3.heap.size)) (rest.extract p rest.size) l bm _ mm v' j (MidAt.fresh (low := lowN k p w3.heap.size) HM.out)
          (fun w7 hag => ⟨fun l' e => (by cases e), lowOk _ w7 hag K05 (by rw [hw4s]; omega) low5⟩) h1 h2 h3 h4
        obtain ⟨c1, c2, c3⟩ := hcl
        obtain ⟨hgb, hgg, hgc, hgn, hgm, hgs⟩ := HG.out
        obtain ⟨hn, hl, hkAt, hi, ep, elen', hcp, ho⟩ := HN.out
        subst elen
        have sup : SupOk w3.heap.size (w5.setCell ⟨bm, 2, none⟩ v') (fun j' => if j' = 1 then (w3.heap.size, mm) else if j' = 2 then (wd.heap.size + 1 + 1, ptr (wd.heap.size + 1)) else (bm, mm)) := by
          have u0 := c2.new 0
          have u1 := c2.new 1
          have v0 := c2.mark 0
          have v1 := c2.mark 1
          simp only [World.size_alloc] at u0 u1
          have u0' : w3.heap.size + 1 ≤ bm ∧ bm < (w5.setCell ⟨bm, 2, none⟩ v').heap.size := u0
          have u1' : w3.heap.size + 1 ≤ wd.heap.size + 1 + 1 ∧ wd.heap.size + 1 + 1 < (w5.setCell ⟨bm, 2, none⟩ v').heap.size := u1
          have v0' : NewMark w3.heap.size (w5.setCell ⟨bm, 2, none⟩ v') mm := NewMark.mono (B := (w3.alloc (.cells #[.string (k.label.extract p k.label.size), .pointer lp, .slice Ak lk ck, .pointer (some ⟨mb, 0, none⟩)] 125)).heap.size) v0 (by simp only [World.size_alloc]; omega)
          have v1' : NewMark w3.heap.size (w5.setCell ⟨bm, 2, none⟩ v') (ptr (wd.heap.size + 1)) := NewMark.mono (B := (w3.alloc (.cells #[.string (k.label.extract p k.label.size), .pointer lp, .slice Ak lk ck, .pointer (some ⟨mb, 0, none⟩)] 125)).heap.size) v1 (by simp only [World.size_alloc]; omega)
          refine ⟨fun j' => ?_, fun j' => ?_⟩
          · split
            · exact ⟨Nat.le_refl _, by show w3.heap.size < _; omega⟩
            · split
              · exact ⟨by show _ ≤ wd.heap.size + 1 + 1; omega, u1'.2⟩
              · exact ⟨by show _ ≤ bm; omega, u0'.2⟩
          · split
            · exact v0'
            · split
              · exact v1'
              · exact v0'
        have B34 : Below w3.heap.size w3 (w5.setCell ⟨bm, 2, none⟩ v') := ((Below.refl _ w3).alloc (Nat.le_refl _) _).trans ⟨c3.os, c3.tape, c3.output, c3.size, fun x hx => c3.block x (by simp only [World.size_alloc]; omega)⟩
        have q7 := deep_close w0 w w2 w3 (w5.setCell ⟨bm, 2, none⟩ v') HK0.out.1 HK0.out.2 n _ b g cap i cur m _ hn HF.out HQ.out hgb hgg hgc hgn hgm hgs hlt' c1 sup B34 rfl
        refine ⟨nsUp (b, m) (fun j' => if j' = 1 then (w3.heap.size, mm) else if j' = 2 then (wd.heap.size + 1 + 1, ptr (wd.heap.size + 1)) else (bm, mm)), rfl, ?_, q7.2.1, q7.2.2⟩
        have e7 := HE.out (nsUp (b, m) (fun j' => if j' = 1 then (w3.heap.size, mm) else if j' = 2 then (wd.heap.size + 1 + 1, ptr (wd.heap.size + 1)) else (bm, mm)))
        rw [hi, ep] at e7
        rw [e7]
        have ej : pos [fb (lowN k p w3.heap.size)] (fbAt rest p) = j := HJ.out.1
        unfold splitN
        rw [if_neg hpe]
        have e8 : (nsUp (b, m) (fun j' => if j' = 1 then (w3.heap.size, mm) else if j' = 2 then (wd.heap.size + 1 + 1, ptr (wd.heap.size + 1)) else (bm, mm)) 2).1 = w3.heap.size := rfl
        rw [e8, ej]
        exact q7.1
end Go.Proofs.Ytkaeglnnahecjaa.T
/- radix: insert at memory, whole; Insert, New, Len, told. -/
set_option linter.unusedVariables false
set_option linter.unusedSimpArgs false
namespace Go.Proofs.Ytkaeglnnahecjaa.T
open Go.RowKit Go.Lib Go.Proofs Go.Proofs.YtkaeglnnahecjaaW.PrintWords

mutual
def Sm : Nd → Prop
  | .mk _ label _ kids _ => label.size < 4000000000000 ∧ Sms kids
def Sms : List Nd → Prop
  | [] => True
  | n :: r => Sm n ∧ Sms r
end
theorem Sms.mem : ∀ {ks : List Nd}, Sms ks → ∀ k ∈ ks, Sm k
  | n :: r, h, k, hk => by
    unfold Sms at h
    rcases List.mem_cons.1 hk with e | e
    · rw [e]; exact h.1
    · exact Sms.mem h.2 k e
theorem Sm.parts {n : Nd} (h : Sm n) : n.label.size < 4000000000000 ∧ Sms n.kids := by
  cases n with
  | mk b label leaf kids mark => unfold Sm at h; exact h
theorem insertC : ∀ (N : Nat) (rest : ByteArray), rest.size ≤ N → rest.size < 4000000000000 → ∀ (n : Nd) (l : Lf) (w0 w : World), Kept w0 w → w0.heap.size ≤ w.heap.size → NdAt w0 n → Ok n → Sm n → LfAt w0 (some l) →
    Calls Try.prog 77 #[ptr n.b, .string rest, ptr l.b] w fun e w' => ∃ ns, e = .returned (.tuple #[ptr (ns 0).1, leafPtr (findN n rest)]) ∧ Rob w0.heap.size w.heap.size w' (insN n rest l ns) ∧ SupOk w.heap.size w' ns ∧ Below w.heap.size w w' := by
  intro N
  induction N with
  | zero =>
    intro rest hN hb n l w0 w hk hs hn ho hsm hl
    exact ins_empty w0 w hk hs n rest l hn ho hl (by omega)
  | succ N ih =>
    intro rest hN hb n l w0 w hk hs hn ho hsm hl
    by_cases h0 : rest.size = 0
    · exact ins_empty w0 w hk hs n rest l hn ho hl h0
    · cases e : kidN n rest with
      | none => exact ins_new w0 w hk hs n rest l hn ho hl (by omega) e
      | some k =>
        obtain ⟨hh, hlt, ek⟩ := kidN_some e
        have hkm : k ∈ n.kids := by rw [← ek]; exact List.getElem_mem _
        have hks := hsm.parts.2.mem k hkm
        by_cases hp : 0 < comB k.label rest ∧ comB k.label rest = k.label.size
        · refine ins_deep w0 w hk hs n k rest l hn ho hl (by omega) hb e hp (by have := hks.parts.1; omega) ?_
          intro w1 hk1 hs1
          have hsz : (rest.extract (comB k.label rest) rest.size).size = rest.size - comB k.label rest := by
            simp only [ByteArray.size_extract]; omega
          refine ih _ (by omega) (by omega) k l w0 w1 hk1 hs1 ?_ (ho.parts.2.2.get k hkm) hks hl
          rw [← ek]
          exact hn.parts.choose_spec.2.2.2.get _ hlt
        · exact ins_split w0 w hk hs n k rest l hn ho hl (by omega) hb e hp hks.parts.1
theorem findN_at (w : World) : ∀ (N : Nat) (rest : ByteArray), rest.size ≤ N → ∀ (n : Nd), NdAt w n → LfAt w (findN n rest) := by
  intro N
  induction N with
  | zero =>
    intro rest hN n hn
    rw [findN, dif_pos (by omega)]
    exact hn.parts.choose_spec.2.2.1
  | succ N ih =>
    intro rest hN n hn
    rw [findN]
    split
    · exact hn.parts.choose_spec.2.2.1
    · split
      · intro l e; cases e
      · rename_i h0 k hk
        obtain ⟨hh, hlt, ek⟩ := kidN_some hk
        split
        · rename_i hp
          have hsz : (rest.extract (comB k.label rest) rest.size).size = rest.size - comB k.label rest := by
            simp only [ByteArray.size_extract]; omega
          refine ih _ (by omega) k ?_
          rw [← ek]
          exact hn.parts.choose_spec.2.2.2.get _ hlt
        · intro l e; cases e
def toldV : Option Lf → Value
  | none => .tuple #[.string ⟨#[]⟩, .int .i64 0, .bool false]
  | some l => .tuple #[.string l.key, l.val, .bool true]
set_option maxHeartbeats 4000000 in
set_option maxRecDepth 100000 in
theorem told (w : World) (o : Option Lf) (h : LfAt w o) : Calls Try.prog 58 #[leafPtr o] w fun e w' => e = .returned (toldV o) ∧ Qt w w' := by
  cases o with
  | none =>
    clear h
    unfold leafPtr
    go_enter Try.func58, Try.ntmps58
    go_wp2_with fail
    go_ret3
    exact ⟨rfl, Qt.refl _⟩
  | some l =>
    have hb := h l rfl
    have c0 : w.cell? ⟨l.b, 0, none⟩ = some (.string l.key) := by rw [blk_cell hb]; rfl
    have c1 : w.cell? ⟨l.b, 1, none⟩ = some l.val := by rw [blk_cell hb]; rfl
    clear h hb
    unfold leafPtr ptr
    go_enter Try.func58, Try.ntmps58
    go_wp2_with fail
    go_region
    go_wp2_with fail
    go_ret3
    exact ⟨rfl, (Qt.refl _).drew⟩
set_option maxHeartbeats 4000000 in
set_option maxRecDepth 100000 in
theorem sclone (w : World) (s : ByteArray) (hs : s.size < 4000000000000) : Calls Try.prog 51 #[.string s] w fun e w' => e = .returned (.string s) ∧ Below w.heap.size w w' := by
  have q1 := Aside0.mk (Try.stringslite_Clone s w (by omega))
  go_enter Try.func51, Try.ntmps51
  go_wp2_with (go_at_call 85; refine q1.out.mono ?_)
  rintro e w' ⟨rfl, hB⟩
  have HB := Aside0.mk hB
  clear hB
  go_wp2_with fail
  go_ret
  exact ⟨rfl, HB.out⟩
/-- a tree in block b -/
structure TrAt (w : World) (b : Nat) (root : Nd) (size : Int) : Prop where
  blk : w.heap[b]? = some (.cells #[ptr root.b, .int .i64 size] 133 (0, 0))
  root : NdAt w root
theorem TrAt.keep {w w' : World} {b : Nat} {root : Nd} {size : Int} (h : TrAt w b root size) (k : Kept w w') : TrAt w' b root size := ⟨k.at h.blk, NdAt.keep k _ h.root⟩
set_option maxHeartbeats 4000000 in
set_option maxRecDepth 100000 in
theorem treeLen (w : World) (b : Nat) (root : Nd) (size : Int) (h : TrAt w b root size) : Calls Try.prog 24 #[ptr b] w fun e w' => e = .returned (.int .i64 size) ∧ w' = w := by
  have c1 : w.cell? ⟨b, 1, none⟩ = some (.int .i64 size) := by rw [blk_cell h.blk]; rfl
  clear h
  unfold ptr
  go_enter Try.func24, Try.ntmps24
  go_wp2_with fail
  go_ret
  exact ⟨rfl, rfl⟩
def emptyN (b : Nat) (m : Value) : Nd := .mk b ⟨#[]⟩ none [] m
set_option maxHeartbeats 4000000 in
set_option maxRecDepth 100000 in
theorem treeNew (w : World) : Calls Try.prog 32 #[] w fun e w' => ∃ tb b m, e = .returned (ptr tb) ∧ TrAt w' tb (emptyN b m) 0 ∧ NewMark w.heap.size w' m ∧ w.heap.size ≤ b ∧ w.heap.size ≤ tb ∧ Below w.heap.size w w' := by
  go_enter Try.func32, Try.ntmps32
  go_wp2_with (go_at_call 50; refine (watchNew _).mono ?_)
  rintro e w1 ⟨rfl, rfl⟩
  unfold ptr watchObj
  go_wp2_with fail
  go_ret
  obtain ⟨hs, t1, t2, t3, t4, hb⟩ := four_facts w (.chan 0 #[] false 0 0 false) (.cells #[.int .u32 0, .int .i32 0, .int .u32 0, .chan (some w.heap.size)] 165) (.cells #[.string ⟨#[]⟩, .pointer none, .slice none 0 0, .pointer (some ⟨w.heap.size + 1, 0, none⟩)] 125) (.cells #[.pointer (some ⟨w.heap.size + 1 + 1, 0, none⟩), .int .i64 0] 133)
  refine ⟨w.heap.size + 1 + 1 + 1, w.heap.size + 1 + 1, ptr (w.heap.size + 1), rfl, ⟨t4, ?_⟩, ⟨w.heap.size, rfl, Nat.le_refl _, t1, t2⟩, by omega, by omega, hb⟩
  exact NdAt.mk (kv := .slice none 0 0) t3 (.inl ⟨rfl, rfl⟩) (fun l e => by cases e) (by unfold NdsAt; trivial) ⟨_, rfl⟩
theorem three_facts (w : World) (o1 o2 o3 : Obj) : (((w.alloc o1).alloc o2).alloc o3).heap.size = w.heap.size + 3 ∧ (((w.alloc o1).alloc o2).alloc o3).heap[w.heap.size]? = some o1 ∧ (((w.alloc o1).alloc o2).alloc o3).heap[w.heap.size + 1]? = some o2 ∧
    (((w.alloc o1).alloc o2).alloc o3).heap[w.heap.size + 1 + 1]? = some o3 ∧ Below w.heap.size w (((w.alloc o1).alloc o2).alloc o3) := by
  refine ⟨by simp only [World.size_alloc], ?_, ?_, ?_, ?_⟩
  · exact alloc_at (alloc_at (heap_alloc_new w _))
  · refine alloc_at ?_
    have := heap_alloc_new (w.alloc o1) o2
    rw [World.size_alloc] at this
    exact this
  · have := heap_alloc_new ((w.alloc o1).alloc o2) o3
    rw [World.size_alloc, World.size_alloc] at this
    exact this
  · exact (((Below.refl _ w).alloc (Nat.le_refl _) _).alloc (by simp only [World.size_alloc]; omega) _).alloc (by simp only [World.size_alloc]; omega) _
def hadOld : Option Lf → Bool × Value
  | none => (false, .int .i64 0)
  | some l => (true, l.val)
def incr (b : Bool) : Int := if b then 0 else 1
/-- the world with a new leaf -/
abbrev leafW (w : World) (k : ByteArray) (v : Int) : World :=
  ((w.alloc (.chan 0 #[] false 0 0 false)).alloc (.cells #[.int .u32 0, .int .i32 0, .int .u32 0, .chan (some w.heap.size)] 165)).alloc (.cells #[.string k, .int .i64 v, .pointer (some ⟨w.heap.size + 1, 0, none⟩)] 139)
set_option maxHeartbeats 4000000 in
set_option maxRecDepth 100000 in
theorem treeInsert (w : World) (tb : Nat) (root : Nd) (size v : Int) (k : ByteArray) (h : TrAt w tb root size) (ho : Ok root) (hsm : Sm root) (hk : k.size < 4000000000000) (hs0 : 0 ≤ size) (hs1 : size < 4000000000000) :
    Calls Try.prog 36 #[ptr tb, .string k, .int .i64 v] w fun e w' => ∃ (tb' lb : Nat) (m : Value) (ns : Sup) (had : Bool) (old : Value), e = .returned (.tuple #[ptr tb', old, .bool had]) ∧ TrAt w' tb' (insN root k ⟨lb, k, .int .i64 v, m⟩ ns) (size + incr had) ∧
      (had, old) = hadOld (findN root k) ∧ w.heap.size ≤ tb' ∧ w.heap.size ≤ lb ∧ NewMark w.heap.size w' m ∧ SupOk w.heap.size w' ns ∧ Below w.heap.size w w' := by
  have q1 := Aside0.mk (sclone w k hk)
  have c0 : w.cell? ⟨tb, 0, none⟩ = some (.pointer (some ⟨root.b, 0, none⟩)) := by rw [blk_cell h.blk]; rfl
  have c1 : w.cell? ⟨tb, 1, none⟩ = some (.int .i64 size) := by rw [blk_cell h.blk]; rfl
  have HT := Aside0.mk h
  have HO := Aside0.mk (And.intro ho hsm)
  clear h ho hsm
  unfold ptr
  go_enter Try.func36, Try.ntmps36
  go_wp2_with (go_at_call 51; refine q1.out.mono ?_)
  rintro e w1 ⟨rfl, B1⟩
  have d0 := (Kept.of B1).cell c0
  have d1 := (Kept.of B1).cell c1
  have HB1 := Aside0.mk B1
  have h1 := HT.out.keep (Kept.of B1)
  have tf := three_facts w1 (.chan 0 #[] false 0 0 false) (.cells #[.int .u32 0, .int .i32 0, .int .u32 0, .chan (some w1.heap.size)] 165) (.cells #[.string k, .int .i64 v, .pointer (some ⟨w1.heap.size + 1, 0, none⟩)] 139)
  have q7 := Aside0.mk (insertC k.size k (Nat.le_refl _) hk root ⟨w1.heap.size + 1 + 1, k, .int .i64 v, .pointer (some ⟨w1.heap.size + 1, 0, none⟩)⟩ (leafW w1 k v).drew (leafW w1 k v).drew (fun _ _ => rfl) (Nat.le_refl _) (NdAt.keep (show Kept w1 (leafW w1 k v).drew from fun x hx => Kept.of tf.2.2.2.2 x hx) _ h1.root) HO.out.1 HO.out.2 (fun l e => by cases e; exact tf.2.2.2.1))
  have HTF := Aside0.mk tf
  clear B1 h1 tf q1
  unfold ptr at q7
  go_wp2_with fail
  go_region_held3 (fun w' => w'.cell? ⟨tb, 0, none⟩ = some (.pointer (some ⟨root.b, 0, none⟩)))
    (first | exact d0 | exact cellA d0 | exact cellA (cellA d0) | exact cellA (cellA (cellA d0)) | exact f0)
    (first
      | (go_at_call 50; refine (watchNew _).mono ?_; rintro e wz ⟨rfl, rfl⟩; unfold ptr watchObj)
      | (go_at_call 77; refine q7.out.mono ?_; rintro e w4 ⟨ns, rfl, hr, hsu, hb4⟩; have f0 := (Kept.of hb4).cell (cellA (cellA (cellA d0))); have f1 := (Kept.of hb4).cell (cellA (cellA (cellA d1))); have H4 := Aside0.mk (And.intro hr (And.intro hsu hb4)); clear hr hsu hb4))
  have hfat := findN_at w k.size k (Nat.le_refl _) root HT.out.root
  cases hfo : findN root k with
  | none =>
    rw [hfo] at hfat
    have q8 := Aside0.mk (fun W => told W none (fun l e => by cases e))
    unfold leafPtr toldV at q8
    unfold leafPtr
    have HFO := Aside0.mk hfo
    clear hfo hfat
    go_wp2_with (go_at_call 58; refine (q8.out _).mono ?_; rintro e w5 ⟨rfl, Q5⟩; have HQ5 := Aside0.mk Q5; clear Q5)
    go_ret3
    obtain ⟨hr, hsu, hb4⟩ := H4.out
    have hsw1 := HB1.out.size
    have hsl : (leafW w1 k v).heap.size = w1.heap.size + 3 := HTF.out.1
    have hsl2 : (leafW w1 k v).heap.size ≤ w4.heap.size := hb4.size
    have B4 : Below w.heap.size w w4 := (HB1.out.trans ⟨HTF.out.2.2.2.2.os, HTF.out.2.2.2.2.tape, HTF.out.2.2.2.2.output, HTF.out.2.2.2.2.size, fun x hx => HTF.out.2.2.2.2.block x (by omega)⟩).trans ⟨hb4.os, hb4.tape, hb4.output, hb4.size, fun x hx => hb4.block x (by show x < (leafW w1 k v).heap.size; omega)⟩
    have QO := HQ5.out
    have hh5 := QO.heap
    have K45 : Kept w4 w5 := (Kept.of ((Below.refl _ w4).alloc (Nat.le_refl _) _)).trans QO.kept (by simp only [World.size_alloc]; omega)
    refine ⟨w4.heap.size, w1.heap.size + 1 + 1, .pointer (some ⟨w1.heap.size + 1, 0, none⟩), ns, false, .int .i64 0, rfl, ⟨?_, ?_⟩, by rw [HFO.out]; rfl, by omega, by omega, ?_, ⟨fun j => ?_, fun j => ?_⟩, (B4.alloc (by omega) _).trans (QO.below _)⟩
    · rw [hh5, insN_b]
      exact heap_alloc_new w4 _
    · exact NdAt.keep K45 _ (hr w4 (Ag.refl _ _ _))
    · exact NewMark.keep (w := w4) ⟨w1.heap.size, rfl, hsw1, (Kept.of hb4).at HTF.out.2.1, (Kept.of hb4).at HTF.out.2.2.1⟩ K45
    · have h1 := hsu.new j
      have h2 : (leafW w1 k v).heap.size ≤ (ns j).1 := h1.1
      have h3 : w4.heap.size + 1 = w5.heap.size := by rw [hh5]; simp only [World.size_alloc]
      omega
    · exact ((hsu.mark j).mono (by show w.heap.size ≤ (leafW w1 k v).heap.size; omega)).keep K45
  | some l' =>
    rw [hfo] at hfat
    have q8 := Aside0.mk (fun W (hW : Kept w W) => told W (some l') (hfat.keep hW))
    unfold leafPtr toldV ptr at q8
    unfold leafPtr ptr
    have HFO := Aside0.mk hfo
    have KW : Aside0 (Kept w w4) := ⟨(Kept.of HB1.out).trans (Kept.trans (b := leafW w1 k v) (Kept.of HTF.out.2.2.2.2) (fun x hx => Kept.of H4.out.2.2 x hx) HTF.out.2.2.2.2.size) HB1.out.size⟩
    clear hfo hfat
    have KW2 : Aside0 (∀ o, Kept w (w4.alloc o)) := ⟨fun o => KW.out.trans (Kept.of ((Below.refl _ w4).alloc (Nat.le_refl _) _)) (by have h1 : (leafW w1 k v).heap.size ≤ w4.heap.size := H4.out.2.2.size; have h2 : (leafW w1 k v).heap.size = w1.heap.size + 3 := HTF.out.1; have h3 := HB1.out.size; omega)⟩
    go_wp2_with (go_at_call 58; refine (q8.out _ (KW2.out _)).mono ?_; rintro e w5 ⟨rfl, Q5⟩; have HQ5 := Aside0.mk Q5; clear Q5)
    go_ret3
    obtain ⟨hr, hsu, hb4⟩ := H4.out
    have hsw1 := HB1.out.size
    have hsl : (leafW w1 k v).heap.size = w1.heap.size + 3 := HTF.out.1
    have hsl2 : (leafW w1 k v).heap.size ≤ w4.heap.size := hb4.size
    have B4 : Below w.heap.size w w4 := (HB1.out.trans ⟨HTF.out.2.2.2.2.os, HTF.out.2.2.2.2.tape, HTF.out.2.2.2.2.output, HTF.out.2.2.2.2.size, fun x hx => HTF.out.2.2.2.2.block x (by omega)⟩).trans ⟨hb4.os, hb4.tape, hb4.output, hb4.size, fun x hx => hb4.block x (by show x < (leafW w1 k v).heap.size; omega)⟩
    have QO := HQ5.out
    have hh5 := QO.heap
    have K45 : Kept w4 w5 := (Kept.of ((Below.refl _ w4).alloc (Nat.le_refl _) _)).trans QO.kept (by simp only [World.size_alloc]; omega)
    refine ⟨w4.heap.size, w1.heap.size + 1 + 1, .pointer (some ⟨w1.heap.size + 1, 0, none⟩), ns, true, l'.val, rfl, ⟨?_, ?_⟩, by rw [HFO.out]; rfl, by omega, by omega, ?_, ⟨fun j => ?_, fun j => ?_⟩, (B4.alloc (by omega) _).trans (QO.below _)⟩
    · rw [hh5, insN_b]
      have e0 : size + incr true = size := Int.add_zero _
      rw [e0]
      exact heap_alloc_new w4 _
    · exact NdAt.keep K45 _ (hr w4 (Ag.refl _ _ _))
    · exact NewMark.keep (w := w4) ⟨w1.heap.size, rfl, hsw1, (Kept.of hb4).at HTF.out.2.1, (Kept.of hb4).at HTF.out.2.2.1⟩ K45
    · have h1 := hsu.new j
      have h2 : (leafW w1 k v).heap.size ≤ (ns j).1 := h1.1
      have h3 : w4.heap.size + 1 = w5.heap.size := by rw [hh5]; simp only [World.size_alloc]
      omega
    · exact ((hsu.mark j).mono (by show w.heap.size ≤ (leafW w1 k v).heap.size; omega)).keep K45
end Go.Proofs.Ytkaeglnnahecjaa.T
/- radix: the way down, with each of its closures. -/
set_option linter.unusedVariables false
set_option linter.unusedSimpArgs false
namespace Go.Proofs.Ytkaeglnnahecjaa.T
open Go.RowKit Go.Lib Go.Proofs Go.Proofs.YtkaeglnnahecjaaW.PrintWords

/-- what the steps down k's way make of s -/
def wayF {σ : Type} (step : σ → Nd → Nat → σ) (k : ByteArray) : Nat → Option Nd → Nat → σ → σ
  | 0, _, _, s => s
  | _ + 1, none, _, s => s
  | f + 1, some n, at_, s => wayF step k f (downN n (k.extract (at_ + n.label.size) k.size)) (at_ + n.label.size) (step s n (at_ + n.label.size))
theorem wayF_none {σ : Type} (step : σ → Nd → Nat → σ) (k : ByteArray) (f a : Nat) (s : σ) : wayF step k f none a s = s := by cases f <;> rfl
theorem downN_some {n m : Nd} {rest : ByteArray} (h : downN n rest = some m) : m ∈ n.kids ∧ m.label.size ≤ rest.size := by
  unfold downN at h
  split at h
  · cases h
  · obtain ⟨k, hk, h2⟩ := Option.bind_eq_some_iff.1 h
    obtain ⟨_, hlt, ek⟩ := kidN_some hk
    split at h2
    · rename_i hp
      cases h2
      refine ⟨by rw [← ek]; exact List.getElem_mem _, ?_⟩
      have h3 := (List.isPrefixOf_iff_prefix.1 hp).length_le
      rw [Array.length_toList, Array.length_toList] at h3
      exact h3
    · cases h2
theorem optPtr_form (o : Option Nd) : ∃ p, optPtr o = .pointer p := by cases o with | none => exact ⟨_, rfl⟩ | some l => exact ⟨_, rfl⟩
/-- a node where way stands -/
structure Stand (wB : World) (k : ByteArray) (n : Nd) (a : Nat) : Prop where
  at_ : NdAt wB n
  ok : Ok n
  sm : Sm n
  le : a + n.label.size ≤ k.size

set_option maxHeartbeats 4000000 in
set_option maxRecDepth 100000 in
theorem way57 {σ : Type} (step : σ → Nd → Nat → σ) (Inv : σ → World → Prop) (cb : Nat) (wB w : World) (tb : Nat) (root : Nd) (size : Int) (k : ByteArray) (s0 : σ) (hk : k.size < 4000000000000) (hkw : Kept wB w) (hsz : wB.heap.size ≤ w.heap.size) (ht : TrAt wB tb root size) (ho : Ok root) (hsm : Sm root) (hroot : root.label.size = 0)
    (hinv : Inv s0 w)
    (hcall : ∀ s n a w1, Kept wB w1 → wB.heap.size ≤ w1.heap.size → Inv s w1 → NdAt wB n → a ≤ k.size → Calls Try.prog 57 #[ptr n.b, .int .i64 (a : Nat), ptr cb] w1 fun e w' => e = .returned (.tuple #[]) ∧ Inv (step s n a) w' ∧ Below wB.heap.size w1 w') :
    Calls Try.prog 56 #[ptr tb, .string k, .func (.func 57) #[] #[ptr cb]] w fun e w' => e = .returned (.tuple #[]) ∧ Inv (wayF step k (k.size + 2) (some root) 0 s0) w' ∧ Below wB.heap.size w w' := by
  have c0 : w.cell? ⟨tb, 0, none⟩ = some (.pointer (some ⟨root.b, 0, none⟩)) := by rw [blk_cell (hkw.at ht.blk)]; rfl
  have HS := Aside0.mk (Stand.mk ht.root ho hsm (by rw [hroot]; omega) : Stand wB k root 0)
  have HC := Aside0.mk hcall
  have HW := Aside0.mk (And.intro hkw (And.intro hsz (And.intro hinv hroot)))
  clear hcall ht ho hsm hkw hsz hinv hroot
  unfold ptr
  go_enter Try.func56, Try.ntmps56
  go_wp2_with fail
  go_loopg [6, 7] (k.size + 2) (fun kq v6 v7 w' => ∃ (a : Nat) (on : Option Nd) (s : σ) (p : Option Addr), v6 = .int .i64 (a : Int) ∧ v7 = .pointer p ∧ Aside0 (optPtr on = .pointer p ∧ (∀ n, on = some n → Stand wB k n a ∧ k.size + 1 < kq + a + n.label.size) ∧ a ≤ k.size) ∧
    Aside0 (wayF step k kq on a s = wayF step k (k.size + 2) (some root) 0 s0) ∧ Aside0 (Inv s w' ∧ Kept wB w' ∧ wB.heap.size ≤ w'.heap.size ∧ Below wB.heap.size w w'))
  case atStart =>
    refine ⟨0, some root, s0, some ⟨root.b, 0, none⟩, rfl, rfl, ⟨rfl, fun n e => by cases e; exact ⟨HS.out, by have := HW.out.2.2.2; omega⟩, by omega⟩, ⟨rfl⟩, ⟨HW.out.2.2.1, HW.out.1, HW.out.2.1, Below.refl _ _⟩⟩
  case round =>
    obtain ⟨a, on, s, p, rfl, rfl, HO, HF, HI⟩ := hrel
    cases on with
    | none =>
      have ep : p = none := by have := HO.out.1; simpa [optPtr] using this.symm
      subst ep
      go_wp2_with fail
      refine bodyPost_end (results_none rfl _ _ _) rfl ?_
      refine ⟨rfl, ?_, HI.out.2.2.2⟩
      rw [← HF.out, wayF_none]
      exact HI.out.1
    | some n =>
      have ep : p = some ⟨n.b, 0, none⟩ := by have := HO.out.1; simpa [optPtr, ptr] using this.symm
      subst ep
      obtain ⟨hst, hq⟩ := HO.out.2.1 n rfl
      obtain ⟨kvn, hbn, _, _, _⟩ := hst.at_.parts
      have cl : wr.cell? ⟨n.b, 0, none⟩ = some (.string n.label) := by rw [blk_cell (HI.out.2.1.at hbn)]; rfl
      have hle := hst.le
      obtain ⟨a2, ea2⟩ : ∃ a2, a + n.label.size = a2 := ⟨_, rfl⟩
      have ha2 : a2 ≤ k.size := by omega
      have ha2I : (a2 : Int) ≤ (k.size : Int) := by omega
      have ew : wrap64 ((a : Int) + (n.label.size : Int)) = (a2 : Int) := by unfold wrap64; omega
      have ew2 : (a : Int) + (n.label.size : Int) = (a2 : Int) := by omega
      have q1 := Aside0.mk (HC.out s n a2 wr HI.out.2.1 HI.out.2.2.1 HI.out.1 hst.at_ ha2)
      have HST := Aside0.mk (And.intro hst (And.intro hq ea2))
      have HEW := Aside0.mk ew
      clear hst hq hbn hle ea2 ew
      unfold ptr at q1
      go_wp2_with (go_at_call 57; refine q1.out.mono ?_)
      rintro e w2 ⟨rfl, hi2, hb2⟩
      have hs2 := hb2.size
      have hk2 : Kept wB w2 := fun x hx => (hb2.block x hx).trans (HI.out.2.1 x hx)
      obtain ⟨p2, ep2⟩ := optPtr_form (downN n (k.extract a2 k.size))
      have q2 := downC w2 n (NdAt.keep hk2 n HST.out.1.at_) HST.out.1.ok (k.extract a2 k.size)
      rw [ep2] at q2
      have q3 := Aside0.mk q2
      have H2 := Aside0.mk (And.intro hi2 (And.intro hb2 (And.intro hk2 ep2)))
      clear hi2 hb2 hk2 ep2 q2 q1 hs2
      unfold ptr at q3
      go_wp2_with (go_at_call 93; refine q3.out.mono ?_)
      rintro e w3 ⟨rfl, rfl⟩
      clear q3
      go_wp2_with fail
      obtain ⟨hst, hq, ea2⟩ := HST.out
      cases hgk : gk with
      | zero => exfalso; have := hst.le; rw [hgk] at hq; omega
      | succ g1 =>
        go_roundg g1
        case measure => omega
        case rel =>
          obtain ⟨hi2, hb2, hk2, ep2⟩ := H2.out
          have hf := HF.out
          rw [hgk] at hf
          unfold wayF at hf
          rw [ea2] at hf
          refine ⟨a2, downN n (k.extract a2 k.size), step s n a2, p2, rfl, rfl, ⟨ep2, fun m em => ?_, ha2⟩, ⟨hf⟩, ⟨hi2, hk2, by have := HI.out.2.2.1; have := hb2.size; omega, HI.out.2.2.2.trans hb2⟩⟩
          obtain ⟨hm, hml⟩ := downN_some em
          have hse : (k.extract a2 k.size).size = k.size - a2 := by simp only [ByteArray.size_extract]; omega
          have hpos := hst.ok.parts.2.1 m hm
          obtain ⟨ii, hii, eii⟩ := List.getElem_of_mem hm
          refine ⟨⟨?_, hst.ok.parts.2.2.get m hm, hst.sm.parts.2.mem m hm, by omega⟩, by rw [hgk] at hq; omega⟩
          rw [← eii]
          exact hst.at_.parts.choose_spec.2.2.2.get ii hii

set_option maxHeartbeats 4000000 in
set_option maxRecDepth 100000 in
theorem way64 {σ : Type} (step : σ → Nd → Nat → σ) (Inv : σ → World → Prop) (cb : Nat) (wB w : World) (tb : Nat) (root : Nd) (size : Int) (k : ByteArray) (s0 : σ) (hk : k.size < 4000000000000) (hkw : Kept wB w) (hsz : wB.heap.size ≤ w.heap.size) (ht : TrAt wB tb root size) (ho : Ok root) (hsm : Sm root) (hroot : root.label.size = 0)
    (hinv : Inv s0 w)
    (hcall : ∀ s n a w1, Kept wB w1 → wB.heap.size ≤ w1.heap.size → Inv s w1 → NdAt wB n → a ≤ k.size → Calls Try.prog 64 #[ptr n.b, .int .i64 (a : Nat), ptr cb] w1 fun e w' => e = .returned (.tuple #[]) ∧ Inv (step s n a) w' ∧ Below wB.heap.size w1 w') :
    Calls Try.prog 56 #[ptr tb, .string k, .func (.func 64) #[] #[ptr cb]] w fun e w' => e = .returned (.tuple #[]) ∧ Inv (wayF step k (k.size + 2) (some root) 0 s0) w' ∧ Below wB.heap.size w w' := by
  have c0 : w.cell? ⟨tb, 0, none⟩ = some (.pointer (some ⟨root.b, 0, none⟩)) := by rw [blk_cell (hkw.at ht.blk)]; rfl
  have HS := Aside0.mk (Stand.mk ht.root ho hsm (by rw [hroot]; omega) : Stand wB k root 0)
  have HC := Aside0.mk hcall
  have HW := Aside0.mk (And.intro hkw (And.intro hsz (And.intro hinv hroot)))
  clear hcall ht ho hsm hkw hsz hinv hroot
  unfold ptr
  go_enter Try.func56, Try.ntmps56
  go_wp2_with fail
  go_loopg [6, 7] (k.size + 2) (fun kq v6 v7 w' => ∃ (a : Nat) (on : Option Nd) (s : σ) (p : Option Addr), v6 = .int .i64 (a : Int) ∧ v7 = .pointer p ∧ Aside0 (optPtr on = .pointer p ∧ (∀ n, on = some n → Stand wB k n a ∧ k.size + 1 < kq + a + n.label.size) ∧ a ≤ k.size) ∧
    Aside0 (wayF step k kq on a s = wayF step k (k.size + 2) (some root) 0 s0) ∧ Aside0 (Inv s w' ∧ Kept wB w' ∧ wB.heap.size ≤ w'.heap.size ∧ Below wB.heap.size w w'))
  case atStart =>
    refine ⟨0, some root, s0, some ⟨root.b, 0, none⟩, rfl, rfl, ⟨rfl, fun n e => by cases e; exact ⟨HS.out, by have := HW.out.2.2.2; omega⟩, by omega⟩, ⟨rfl⟩, ⟨HW.out.2.2.1, HW.out.1, HW.out.2.1, Below.refl _ _⟩⟩
  case round =>
    obtain ⟨a, on, s, p, rfl, rfl, HO, HF, HI⟩ := hrel
    cases on with
    | none =>
      have ep : p = none := by have := HO.out.1; simpa [optPtr] using this.symm
      subst ep
      go_wp2_with fail
      refine bodyPost_end (results_none rfl _ _ _) rfl ?_
      refine ⟨rfl, ?_, HI.out.2.2.2⟩
      rw [← HF.out, wayF_none]
      exact HI.out.1
    | some n =>
      have ep : p = some ⟨n.b, 0, none⟩ := by have := HO.out.1; simpa [optPtr, ptr] using this.symm
      subst ep
      obtain ⟨hst, hq⟩ := HO.out.2.1 n rfl
      obtain ⟨kvn, hbn, _, _, _⟩ := hst.at_.parts
      have cl : wr.cell? ⟨n.b, 0, none⟩ = some (.string n.label) := by rw [blk_cell (HI.out.2.1.at hbn)]; rfl
      have hle := hst.le
      obtain ⟨a2, ea2⟩ : ∃ a2, a + n.label.size = a2 := ⟨_, rfl⟩
      have ha2 : a2 ≤ k.size := by omega
      have ha2I : (a2 : Int) ≤ (k.size : Int) := by omega
      have ew : wrap64 ((a : Int) + (n.label.size : Int)) = (a2 : Int) := by unfold wrap64; omega
      have ew2 : (a : Int) + (n.label.size : Int) = (a2 : Int) := by omega
      have q1 := Aside0.mk (HC.out s n a2 wr HI.out.2.1 HI.out.2.2.1 HI.out.1 hst.at_ ha2)
      have HST := Aside0.mk (And.intro hst (And.intro hq ea2))
      have HEW := Aside0.mk ew
      clear hst hq hbn hle ea2 ew
      unfold ptr at q1
      go_wp2_with (go_at_call 64; refine q1.out.mono ?_)
      rintro e w2 ⟨rfl, hi2, hb2⟩
      have hs2 := hb2.size
      have hk2 : Kept wB w2 := fun x hx => (hb2.block x hx).trans (HI.out.2.1 x hx)
      obtain ⟨p2, ep2⟩ := optPtr_form (downN n (k.extract a2 k.size))
      have q2 := downC w2 n (NdAt.keep hk2 n HST.out.1.at_) HST.out.1.ok (k.extract a2 k.size)
      rw [ep2] at q2
      have q3 := Aside0.mk q2
      have H2 := Aside0.mk (And.intro hi2 (And.intro hb2 (And.intro hk2 ep2)))
      clear hi2 hb2 hk2 ep2 q2 q1 hs2
      unfold ptr at q3
      go_wp2_with (go_at_call 93; refine q3.out.mono ?_)
      rintro e w3 ⟨rfl, rfl⟩
      clear q3
      go_wp2_with fail
      obtain ⟨hst, hq, ea2⟩ := HST.out
      cases hgk : gk with
      | zero => exfalso; have := hst.le; rw [hgk] at hq; omega
      | succ g1 =>
        go_roundg g1
        case measure => omega
        case rel =>
          obtain ⟨hi2, hb2, hk2, ep2⟩ := H2.out
          have hf := HF.out
          rw [hgk] at hf
          unfold wayF at hf
          rw [ea2] at hf
          refine ⟨a2, downN n (k.extract a2 k.size), step s n a2, p2, rfl, rfl, ⟨ep2, fun m em => ?_, ha2⟩, ⟨hf⟩, ⟨hi2, hk2, by have := HI.out.2.2.1; have := hb2.size; omega, HI.out.2.2.2.trans hb2⟩⟩
          obtain ⟨hm, hml⟩ := downN_some em
          have hse : (k.extract a2 k.size).size = k.size - a2 := by simp only [ByteArray.size_extract]; omega
          have hpos := hst.ok.parts.2.1 m hm
          obtain ⟨ii, hii, eii⟩ := List.getElem_of_mem hm
          refine ⟨⟨?_, hst.ok.parts.2.2.get m hm, hst.sm.parts.2.mem m hm, by omega⟩, by rw [hgk] at hq; omega⟩
          rw [← eii]
          exact hst.at_.parts.choose_spec.2.2.2.get ii hii

set_option maxHeartbeats 4000000 in
set_option maxRecDepth 100000 in
theorem way96 {σ : Type} (step : σ → Nd → Nat → σ) (Inv : σ → World → Prop) (kb cb : Nat) (wB w : World) (tb : Nat) (root : Nd) (size : Int) (k : ByteArray) (s0 : σ) (hk : k.size < 4000000000000) (hkw : Kept wB w) (hsz : wB.heap.size ≤ w.heap.size) (ht : TrAt wB tb root size) (ho : Ok root) (hsm : Sm root) (hroot : root.label.size = 0)
    (hinv : Inv s0 w)
    (hcall : ∀ s n a w1, Kept wB w1 → wB.heap.size ≤ w1.heap.size → Inv s w1 → NdAt wB n → a ≤ k.size → Calls Try.prog 96 #[ptr n.b, .int .i64 (a : Nat), ptr kb, ptr cb] w1 fun e w' => e = .returned (.tuple #[]) ∧ Inv (step s n a) w' ∧ Below wB.heap.size w1 w') :
    Calls Try.prog 56 #[ptr tb, .string k, .func (.func 96) #[] #[ptr kb, ptr cb]] w fun e w' => e = .returned (.tuple #[]) ∧ Inv (wayF step k (k.size + 2) (some root) 0 s0) w' ∧ Below wB.heap.size w w' := by
  have c0 : w.cell? ⟨tb, 0, none⟩ = some (.pointer (some ⟨root.b, 0, none⟩)) := by rw [blk_cell (hkw.at ht.blk)]; rfl
  have HS := Aside0.mk (Stand.mk ht.root ho hsm (by rw [hroot]; omega) : Stand wB k root 0)
  have HC := Aside0.mk hcall
  have HW := Aside0.mk (And.intro hkw (And.intro hsz (And.intro hinv hroot)))
  clear hcall ht ho hsm hkw hsz hinv hroot
  unfold ptr
  go_enter Try.func56, Try.ntmps56
  go_wp2_with fail
  go_loopg [6, 7] (k.size + 2) (fun kq v6 v7 w' => ∃ (a : Nat) (on : Option Nd) (s : σ) (p : Option Addr), v6 = .int .i64 (a : Int) ∧ v7 = .pointer p ∧ Aside0 (optPtr on = .pointer p ∧ (∀ n, on = some n → Stand wB k n a ∧ k.size + 1 < kq + a + n.label.size) ∧ a ≤ k.size) ∧
    Aside0 (wayF step k kq on a s = wayF step k (k.size + 2) (some root) 0 s0) ∧ Aside0 (Inv s w' ∧ Kept wB w' ∧ wB.heap.size ≤ w'.heap.size ∧ Below wB.heap.size w w'))
  case atStart =>
    refine ⟨0, some root, s0, some ⟨root.b, 0, none⟩, rfl, rfl, ⟨rfl, fun n e => by cases e; exact ⟨HS.out, by have := HW.out.2.2.2; omega⟩, by omega⟩, ⟨rfl⟩, ⟨HW.out.2.2.1, HW.out.1, HW.out.2.1, Below.refl _ _⟩⟩
  case round =>
    obtain ⟨a, on, s, p, rfl, rfl, HO, HF, HI⟩ := hrel
    cases on with
    | none =>
      have ep : p = none := by have := HO.out.1; simpa [optPtr] using this.symm
      subst ep
      go_wp2_with fail
      refine bodyPost_end (results_none rfl _ _ _) rfl ?_
      refine ⟨rfl, ?_, HI.out.2.2.2⟩
      rw [← HF.out, wayF_none]
      exact HI.out.1
    | some n =>
      have ep : p = some ⟨n.b, 0, none⟩ := by have := HO.out.1; simpa [optPtr, ptr] using this.symm
      subst ep
      obtain ⟨hst, hq⟩ := HO.out.2.1 n rfl
      obtain ⟨kvn, hbn, _, _, _⟩ := hst.at_.parts
      have cl : wr.cell? ⟨n.b, 0, none⟩ = some (.string n.label) := by rw [blk_cell (HI.out.2.1.at hbn)]; rfl
      have hle := hst.le
      obtain ⟨a2, ea2⟩ : ∃ a2, a + n.label.size = a2 := ⟨_, rfl⟩
      have ha2 : a2 ≤ k.size := by omega
      have ha2I : (a2 : Int) ≤ (k.size : Int) := by omega
      have ew : wrap64 ((a : Int) + (n.label.size : Int)) = (a2 : Int) := by unfold wrap64; omega
      have ew2 : (a : Int) + (n.label.size : Int) = (a2 : Int) := by omega
      have q1 := Aside0.mk (HC.out s n a2 wr HI.out.2.1 HI.out.2.2.1 HI.out.1 hst.at_ ha2)
      have HST := Aside0.mk (And.intro hst (And.intro hq ea2))
      have HEW := Aside0.mk ew
      clear hst hq hbn hle ea2 ew
      unfold ptr at q1
      go_wp2_with (go_at_call 96; refine q1.out.mono ?_)
      rintro e w2 ⟨rfl, hi2, hb2⟩
      have hs2 := hb2.size
      have hk2 : Kept wB w2 := fun x hx => (hb2.block x hx).trans (HI.out.2.1 x hx)
      obtain ⟨p2, ep2⟩ := optPtr_form (downN n (k.extract a2 k.size))
      have q2 := downC w2 n (NdAt.keep hk2 n HST.out.1.at_) HST.out.1.ok (k.extract a2 k.size)
      rw [ep2] at q2
      have q3 := Aside0.mk q2
      have H2 := Aside0.mk (And.intro hi2 (And.intro hb2 (And.intro hk2 ep2)))
      clear hi2 hb2 hk2 ep2 q2 q1 hs2
      unfold ptr at q3
      go_wp2_with (go_at_call 93; refine q3.out.mono ?_)
      rintro e w3 ⟨rfl, rfl⟩
      clear q3
      go_wp2_with fail
      obtain ⟨hst, hq, ea2⟩ := HST.out
      cases hgk : gk with
      | zero => exfalso; have := hst.le; rw [hgk] at hq; omega
      | succ g1 =>
        go_roundg g1
        case measure => omega
        case rel =>
          obtain ⟨hi2, hb2, hk2, ep2⟩ := H2.out
          have hf := HF.out
          rw [hgk] at hf
          unfold wayF at hf
          rw [ea2] at hf
          refine ⟨a2, downN n (k.extract a2 k.size), step s n a2, p2, rfl, rfl, ⟨ep2, fun m em => ?_, ha2⟩, ⟨hf⟩, ⟨hi2, hk2, by have := HI.out.2.2.1; have := hb2.size; omega, HI.out.2.2.2.trans hb2⟩⟩
          obtain ⟨hm, hml⟩ := downN_some em
          have hse : (k.extract a2 k.size).size = k.size - a2 := by simp only [ByteArray.size_extract]; omega
          have hpos := hst.ok.parts.2.1 m hm
          obtain ⟨ii, hii, eii⟩ := List.getElem_of_mem hm
          refine ⟨⟨?_, hst.ok.parts.2.2.get m hm, hst.sm.parts.2.mem m hm, by omega⟩, by rw [hgk] at hq; omega⟩
          rw [← eii]
          exact hst.at_.parts.choose_spec.2.2.2.get ii hii
end Go.Proofs.Ytkaeglnnahecjaa.T
/- radix: Longest, Reach, find, Get at memory. -/
set_option linter.unusedVariables false
set_option linter.unusedSimpArgs false
namespace Go.Proofs.Ytkaeglnnahecjaa.T
open Go.RowKit Go.Lib Go.Proofs Go.Proofs.YtkaeglnnahecjaaW.PrintWords

def stepL (s : Option Lf) (n : Nd) (_ : Nat) : Option Lf := if n.leaf.isSome then n.leaf else s
def stepF (k : ByteArray) (s : Option Lf) (n : Nd) (a : Nat) : Option Lf := if a = k.size then n.leaf else s
def stepR (_ : Nat) (_ : Nd) (a : Nat) : Nat := a
def InvL (wB : World) (cb : Nat) (s : Option Lf) (w : World) : Prop := w.heap[cb]? = some (.cells #[leafPtr s] 121 (0, 0)) ∧ LfAt wB s
def InvF (wB : World) (k : ByteArray) (kb cb : Nat) (s : Option Lf) (w : World) : Prop := w.heap[kb]? = some (.cells #[.string k] 9 (0, 0)) ∧ w.heap[cb]? = some (.cells #[leafPtr s] 121 (0, 0)) ∧ LfAt wB s
def InvR (k : ByteArray) (cb : Nat) (s : Nat) (w : World) : Prop := w.heap[cb]? = some (.cells #[.int .i64 (s : Int)] 3 (0, 0)) ∧ s ≤ k.size
theorem put_one (w : World) {cb : Nat} {t : TypeId} {old v : Value} (h : w.heap[cb]? = some (.cells #[old] t (0, 0))) : (w.setCell ⟨cb, 0, none⟩ v).heap[cb]? = some (.cells #[v] t (0, 0)) := heap_setCell w v h
theorem below_set (wB w : World) (cb : Nat) (hc : wB.heap.size ≤ cb) (v : Value) : Below wB.heap.size w (w.setCell ⟨cb, 0, none⟩ v) := kept_set (Below.refl _ w) cb hc 0 v
set_option maxHeartbeats 4000000 in
set_option maxRecDepth 100000 in
theorem callL (wB : World) (cb : Nat) (hcb : wB.heap.size ≤ cb) (s : Option Lf) (n : Nd) (a : Nat) (w1 : World) (hk : Kept wB w1) (hi : InvL wB cb s w1) (hn : NdAt wB n) :
    Calls Try.prog 57 #[ptr n.b, .int .i64 (a : Nat), ptr cb] w1 fun e w' => e = .returned (.tuple #[]) ∧ InvL wB cb (stepL s n a) w' ∧ Below wB.heap.size w1 w' := by
  obtain ⟨kv, hb, _, hl, _⟩ := hn.parts
  have c1 : w1.cell? ⟨n.b, 1, none⟩ = some (leafPtr n.leaf) := by rw [blk_cell (hk.at hb)]; rfl
  have cc : w1.cell? ⟨cb, 0, none⟩ = some (leafPtr s) := by rw [blk_cell hi.1]; rfl
  have fc : w1.frozen? ⟨cb, 0, none⟩ = false := blk_frozen hi.1 0
  have HI := Aside0.mk (And.intro hi (And.intro hl hcb))
  clear hi hb hl hk hn
  cases e : n.leaf with
  | none =>
    rw [e] at c1
    have es : stepL s n a = s := by unfold stepL; rw [e]; rfl
    rw [es]
    have HE := Aside0.mk e
    clear e es
    unfold leafPtr at c1
    unfold ptr
    go_enter Try.func57, Try.ntmps57
    go_wp2_with fail
    refine bodyPost_end (results_none rfl _ _ _) rfl ?_
    exact ⟨rfl, HI.out.1, Below.refl _ _⟩
  | some l =>
    rw [e] at c1
    have es : stepL s n a = some l := by unfold stepL; rw [e]; rfl
    rw [es]
    have HE := Aside0.mk e
    clear e es
    unfold leafPtr ptr at c1
    unfold ptr
    go_enter Try.func57, Try.ntmps57
    go_wp2_with fail
    refine bodyPost_end (results_none rfl _ _ _) rfl ?_
    refine ⟨rfl, ⟨put_one w1 HI.out.1.1, ?_⟩, below_set wB w1 cb HI.out.2.2 _⟩
    have := HI.out.2.1
    rw [HE.out] at this
    exact this
set_option maxHeartbeats 4000000 in
set_option maxRecDepth 100000 in
theorem callF (wB : World) (k : ByteArray) (hks : k.size < 4000000000000) (kb cb : Nat) (hcb : wB.heap.size ≤ cb) (s : Option Lf) (n : Nd) (a : Nat) (w1 : World) (hk : Kept wB w1) (hi : InvF wB k kb cb s w1) (hn : NdAt wB n) (ha : a ≤ k.size) :
    Calls Try.prog 96 #[ptr n.b, .int .i64 (a : Nat), ptr kb, ptr cb] w1 fun e w' => e = .returned (.tuple #[]) ∧ InvF wB k kb cb (stepF k s n a) w' ∧ Below wB.heap.size w1 w' := by
  obtain ⟨kv, hb, _, hl, _⟩ := hn.parts
  have c1 : w1.cell? ⟨n.b, 1, none⟩ = some (leafPtr n.leaf) := by rw [blk_cell (hk.at hb)]; rfl
  have ck : w1.cell? ⟨kb, 0, none⟩ = some (.string k) := by rw [blk_cell hi.1]; rfl
  have cc : w1.cell? ⟨cb, 0, none⟩ = some (leafPtr s) := by rw [blk_cell hi.2.1]; rfl
  have fc : w1.frozen? ⟨cb, 0, none⟩ = false := blk_frozen hi.2.1 0
  have HI := Aside0.mk (And.intro hi (And.intro hl hcb))
  clear hi hb hl hk hn
  by_cases e : a = k.size
  · have es : stepF k s n a = n.leaf := by unfold stepF; rw [if_pos e]
    rw [es]
    subst e
    clear es
    obtain ⟨p, ep⟩ := leafPtr_form n.leaf
    rw [ep] at c1
    have HP := Aside0.mk ep
    clear ep
    unfold ptr
    go_enter Try.func96, Try.ntmps96
    go_wp2_with fail
    refine bodyPost_end (results_none rfl _ _ _) rfl ?_
    have hne : kb ≠ cb := fun e => by have h1 := HI.out.1.1; rw [e, HI.out.1.2.1] at h1; simp at h1
    refine ⟨rfl, ⟨set_at HI.out.1.1 hne, ?_, HI.out.2.1⟩, below_set wB w1 cb HI.out.2.2 _⟩
    rw [HP.out]
    exact put_one w1 HI.out.1.2.1
  · have es : stepF k s n a = s := by unfold stepF; rw [if_neg e]
    rw [es]
    have eI : ¬ ((a : Int) = (k.size : Int)) := by omega
    clear es e
    unfold ptr
    go_enter Try.func96, Try.ntmps96
    go_wp2_with fail
    refine bodyPost_end (results_none rfl _ _ _) rfl ?_
    exact ⟨rfl, HI.out.1, Below.refl _ _⟩
set_option maxHeartbeats 4000000 in
set_option maxRecDepth 100000 in
theorem callR (wB : World) (k : ByteArray) (cb : Nat) (hcb : wB.heap.size ≤ cb) (s : Nat) (n : Nd) (a : Nat) (w1 : World) (hi : InvR k cb s w1) (ha : a ≤ k.size) :
    Calls Try.prog 64 #[ptr n.b, .int .i64 (a : Nat), ptr cb] w1 fun e w' => e = .returned (.tuple #[]) ∧ InvR k cb (stepR s n a) w' ∧ Below wB.heap.size w1 w' := by
  have cc : w1.cell? ⟨cb, 0, none⟩ = some (.int .i64 (s : Int)) := by rw [blk_cell hi.1]; rfl
  have fc : w1.frozen? ⟨cb, 0, none⟩ = false := blk_frozen hi.1 0
  have HI := Aside0.mk (And.intro hi hcb)
  clear hi
  unfold ptr
  go_enter Try.func64, Try.ntmps64
  go_wp2_with fail
  refine bodyPost_end (results_none rfl _ _ _) rfl ?_
  exact ⟨rfl, ⟨put_one w1 HI.out.1.1, ha⟩, below_set wB w1 cb HI.out.2 _⟩
def longN (root : Nd) (k : ByteArray) : Option Lf := wayF stepL k (k.size + 2) (some root) 0 none
def reachN (root : Nd) (k : ByteArray) : Nat := wayF stepR k (k.size + 2) (some root) 0 0
def seekN (root : Nd) (k : ByteArray) : Option Lf := wayF (stepF k) k (k.size + 2) (some root) 0 none
set_option maxHeartbeats 4000000 in
set_option maxRecDepth 100000 in
theorem treeLongest (w : World) (tb : Nat) (root : Nd) (size : Int) (k : ByteArray) (ht : TrAt w tb root size) (ho : Ok root) (hsm : Sm root) (hroot : root.label.size = 0) (hk : k.size < 4000000000000) :
    Calls Try.prog 17 #[ptr tb, .string k] w fun e w' => e = .returned (toldV (longN root k)) ∧ Below w.heap.size w w' := by
  have hk0 : Kept w (w.alloc (.cells #[.pointer none] 121)) := Kept.of ((Below.refl _ w).alloc (Nat.le_refl _) _)
  have q1 := Aside0.mk (way57 stepL (InvL w w.heap.size) w.heap.size w (w.alloc (.cells #[.pointer none] 121)) tb root size k none hk hk0 (by simp only [World.size_alloc]; omega) ht ho hsm hroot ⟨heap_alloc_new w _, fun l e => by cases e⟩
    (fun s n a w1 h1 h2 h3 h4 h5 => callL w w.heap.size (Nat.le_refl _) s n a w1 h1 h3 h4))
  clear ht ho hsm hroot hk0
  obtain ⟨p, ep⟩ := leafPtr_form (longN root k)
  obtain ⟨tv, etv⟩ : ∃ tv, toldV (longN root k) = tv := ⟨_, rfl⟩
  have hform : ∃ a b c, tv = .tuple #[a, b, c] := by rw [← etv]; cases longN root k <;> exact ⟨_, _, _, rfl⟩
  rw [etv]
  obtain ⟨a, b, c, rfl⟩ := hform
  have HE := Aside0.mk (And.intro etv ep)
  clear etv ep
  unfold ptr at q1 ⊢
  go_enter Try.func17, Try.ntmps17
  go_wp2_with (go_at_call 56; refine q1.out.mono ?_)
  rintro e w2 ⟨rfl, hi, hb⟩
  have hL : longN root k = wayF stepL k (k.size + 2) (some root) 0 none := rfl
  rw [← hL] at hi
  have ep := HE.out.2
  have cc : w2.cell? ⟨w.heap.size, 0, none⟩ = some (.pointer p) := by rw [blk_cell hi.1, ep]; rfl
  have hb' : Below w.heap.size w w2 := ((Below.refl _ w).alloc (Nat.le_refl _) _).trans hb
  have q2 := told w2 (longN root k) (hi.2.keep (Kept.of hb'))
  rw [ep] at q2
  rw [HE.out.1] at q2
  have q3 := Aside0.mk q2
  have HB := Aside0.mk hb'
  clear hi hb hb' q2 q1 hL ep
  go_wp2_with (go_at_call 58; refine q3.out.mono ?_)
  rintro e w3 ⟨rfl, hQ⟩
  have HQ := Aside0.mk hQ
  clear hQ q3
  go_wp2_with fail
  go_ret3
  exact ⟨rfl, HB.out.trans (HQ.out.below _)⟩
set_option maxHeartbeats 4000000 in
set_option maxRecDepth 100000 in
theorem treeReach (w : World) (tb : Nat) (root : Nd) (size : Int) (k : ByteArray) (ht : TrAt w tb root size) (ho : Ok root) (hsm : Sm root) (hroot : root.label.size = 0) (hk : k.size < 4000000000000) :
    Calls Try.prog 21 #[ptr tb, .string k] w fun e w' => e = .returned (.string (k.extract 0 (reachN root k))) ∧ reachN root k ≤ k.size ∧ Below w.heap.size w w' := by
  have hk0 : Kept w (w.alloc (.cells #[.int .i64 0] 3)) := Kept.of ((Below.refl _ w).alloc (Nat.le_refl _) _)
  have q1 := Aside0.mk (way64 stepR (InvR k w.heap.size) w.heap.size w (w.alloc (.cells #[.int .i64 0] 3)) tb root size k 0 hk hk0 (by simp only [World.size_alloc]; omega) ht ho hsm hroot ⟨heap_alloc_new w _, Nat.zero_le _⟩
    (fun s n a w1 h1 h2 h3 h4 h5 => callR w k w.heap.size (Nat.le_refl _) s n a w1 h3 h5))
  clear ht ho hsm hroot hk0
  obtain ⟨r, er⟩ : ∃ r, reachN root k = r := ⟨_, rfl⟩
  rw [er]
  have HE := Aside0.mk er
  clear er
  unfold ptr at q1 ⊢
  go_enter Try.func21, Try.ntmps21
  go_wp2_with (go_at_call 56; refine q1.out.mono ?_)
  rintro e w2 ⟨rfl, hi, hb⟩
  have hL : reachN root k = wayF stepR k (k.size + 2) (some root) 0 0 := rfl
  rw [← hL, HE.out] at hi
  have cc : w2.cell? ⟨w.heap.size, 0, none⟩ = some (.int .i64 (r : Int)) := by rw [blk_cell hi.1]; rfl
  have hb' : Below w.heap.size w w2 := ((Below.refl _ w).alloc (Nat.le_refl _) _).trans hb
  have hr := hi.2
  have hrI : (r : Int) ≤ (k.size : Int) := by omega
  have HB := Aside0.mk hb'
  clear hi hb hb' q1 hL
  go_wp2_with fail
  go_ret
  exact ⟨rfl, hr, HB.out⟩
set_option maxHeartbeats 4000000 in
set_option maxRecDepth 100000 in
theorem treeFind (w : World) (tb : Nat) (root : Nd) (size : Int) (k : ByteArray) (ht : TrAt w tb root size) (ho : Ok root) (hsm : Sm root) (hroot : root.label.size = 0) (hk : k.size < 4000000000000) :
    Calls Try.prog 66 #[ptr tb, .string k] w fun e w' => e = .returned (leafPtr (seekN root k)) ∧ LfAt w (seekN root k) ∧ Below w.heap.size w w' := by
  have hk0 : Kept w ((w.alloc (.cells #[.string k] 9)).alloc (.cells #[.pointer none] 121)) := Kept.of (((Below.refl _ w).alloc (Nat.le_refl _) _).alloc (by simp only [World.size_alloc]; omega) _)
  have e2 : ((w.alloc (.cells #[.string k] 9)).alloc (.cells #[.pointer none] 121)).heap[w.heap.size + 1]? = some (.cells #[leafPtr none] 121 (0, 0)) := by
    have := heap_alloc_new (w.alloc (.cells #[.string k] 9)) (.cells #[.pointer none] 121)
    rw [World.size_alloc] at this
    exact this
  have q1 := Aside0.mk (way96 (stepF k) (InvF w k w.heap.size (w.heap.size + 1)) w.heap.size (w.heap.size + 1) w ((w.alloc (.cells #[.string k] 9)).alloc (.cells #[.pointer none] 121)) tb root size k none hk hk0 (by simp only [World.size_alloc]; omega) ht ho hsm hroot ⟨alloc_at (heap_alloc_new w _), e2, fun l e => by cases e⟩
    (fun s n a w1 h1 h2 h3 h4 h5 => callF w k hk w.heap.size (w.heap.size + 1) (by omega) s n a w1 h1 h3 h4 h5))
  clear ht ho hsm hroot hk0 e2
  unfold ptr at q1 ⊢
  go_enter Try.func66, Try.ntmps66
  go_wp2_with (go_at_call 56; refine q1.out.mono ?_)
  rintro e w2 ⟨rfl, hi, hb⟩
  have hL : seekN root k = wayF (stepF k) k (k.size + 2) (some root) 0 none := rfl
  rw [← hL] at hi
  have cc : w2.cell? ⟨w.heap.size + 1, 0, none⟩ = some (leafPtr (seekN root k)) := by rw [blk_cell hi.2.1]; rfl
  have hb' : Below w.heap.size w w2 := (((Below.refl _ w).alloc (Nat.le_refl _) _).alloc (by simp only [World.size_alloc]; omega) _).trans hb
  have HB := Aside0.mk (And.intro hb' hi.2.2)
  clear hi hb hb' q1 hL
  go_wp2_with fail
  go_ret
  exact ⟨rfl, HB.out.2, HB.out.1⟩
def getV (o : Option Lf) : Value := match o with | none => .tuple #[.int .i64 0, .bool false] | some l => .tuple #[l.val, .bool true]
set_option maxHeartbeats 4000000 in
set_option maxRecDepth 100000 in
theorem treeGet (w : World) (tb : Nat) (root : Nd) (size : Int) (k : ByteArray) (ht : TrAt w tb root size) (ho : Ok root) (hsm : Sm root) (hroot : root.label.size = 0) (hk : k.size < 4000000000000) :
    Calls Try.prog 25 #[ptr tb, .string k] w fun e w' => e = .returned (getV (seekN root k)) ∧ Below w.heap.size w w' := by
  have q1 := Aside0.mk (treeFind w tb root size k ht ho hsm hroot hk)
  clear ht ho hsm hroot
  obtain ⟨tv, etv⟩ : ∃ tv, toldV (seekN root k) = tv := ⟨_, rfl⟩
  have hform : ∃ a b c, tv = .tuple #[a, b, c] ∧ getV (seekN root k) = .tuple #[b, c] := by rw [← etv]; cases seekN root k <;> exact ⟨_, _, _, rfl, rfl⟩
  obtain ⟨a, b, c, rfl, eg⟩ := hform
  rw [eg]
  obtain ⟨p, ep⟩ := leafPtr_form (seekN root k)
  have HE := Aside0.mk (And.intro etv (And.intro eg ep))
  rw [ep] at q1
  clear etv eg ep
  unfold ptr at q1 ⊢
  go_enter Try.func25, Try.ntmps25
  go_wp2_with (go_at_call 66; refine q1.out.mono ?_)
  rintro e w2 ⟨rfl, hl, hb⟩
  have q2 := told w2 (seekN root k) (hl.keep (Kept.of hb))
  rw [HE.out.1, HE.out.2.2] at q2
  have q3 := Aside0.mk q2
  have HB := Aside0.mk hb
  clear hl hb q2 q1
  go_wp2_with (go_at_call 58; refine q3.out.mono ?_)
  rintro e w3 ⟨rfl, hQ⟩
  have HQ := Aside0.mk hQ
  clear hQ q3
  go_wp2_with fail
  go_ret2
  exact ⟨rfl, HB.out.trans (HQ.out.below _)⟩
end Go.Proofs.Ytkaeglnnahecjaa.T
