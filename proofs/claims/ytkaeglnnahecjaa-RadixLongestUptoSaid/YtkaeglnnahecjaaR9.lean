/- radix: insert at memory: a new kid. -/
import Derived.Test.YtkaeglnnahecjaaR8
set_option linter.unusedVariables false
set_option linter.unusedSimpArgs false
namespace Go.Proofs.Ytkaeglnnahecjaa.T
open Go.RowKit Go.Lib Go.Proofs Go.Proofs.YtkaeglnnahecjaaW.PrintWords

/-- the kid's place in the fresh node -/
theorem kidF (w w1 : World) (n : Nd) (b : Nat) (kv m : Value) (hn : NdAt w n) (ho : Ok n) (hf : FreshAt w w1 n b kv m) (x : Nat) (hx : x < 256) :
    Calls Try.prog 98 #[ptr b, .int .u8 x] w1 fun e w' => e = .returned (.tuple #[.int .i64 (pos (n.kids.map fb) x), .bool (hit (n.kids.map fb) x)]) ∧ w' = w1 := by
  obtain ⟨kv0, hb0, _, hlf, hks⟩ := hn.parts
  obtain ⟨hs, hp, hoks⟩ := ho.parts
  exact kidOf w1 b n.label _ kv _ n.kids x hf.blk (row_of_owns hf.row) (NdsAt.keep (Kept.of hf.kept) _ hks) hs hp hx (by have := ho.few; omega)
theorem owns_ne {w : World} {base n x : Nat} {v : Value} {ps : List Value} {o : Obj} (h : w.ownsRow base 58 1 v n ps) (hx : w.heap[x]? = some o) (ho : ∀ cur, o ≠ .cells cur 58 (0, 0)) : v.ownBlock ≠ some x := by
  rcases h.2 with ⟨rfl, _⟩ | ⟨g, cap, cur, rfl, _, hg, _⟩
  · simp [Value.ownBlock]
  · intro e
    simp [Value.ownBlock] at e
    subst e
    rw [hx] at hg
    exact ho cur (Option.some.inj hg)
theorem grown_at {w w' : World} {row : Option Nat} {x : Nat} {o : Obj} (h : w.grownBy w' row) (hx : w.heap[x]? = some o) (hr : row ≠ some x) : w'.heap[x]? = some o :=
  (h.block x (Array.getElem?_eq_some_iff.1 hx).1 (fun e => hr e.symm)).trans hx
theorem alloc_at {w : World} {x : Nat} {o o' : Obj} (hx : w.heap[x]? = some o) : (w.alloc o').heap[x]? = some o := (heap_alloc_old w o' (Array.getElem?_eq_some_iff.1 hx).1).trans hx
theorem set_at {w : World} {x g i : Nat} {o : Obj} {v : Value} (hx : w.heap[x]? = some o) (hne : x ≠ g) : (w.setCell ⟨g, i, none⟩ v).heap[x]? = some o := (Below.heap_setCell w ⟨g, i, none⟩ v x hne).trans hx
/-- a new node of its own: a watch's channel, the watch, the node, and a row of one -/
abbrev tipW (w : World) (label : ByteArray) (lb : Nat) : World :=
  (((w.alloc (.chan 0 #[] false 0 0 false)).alloc (.cells #[.int .u32 0, .int .i32 0, .int .u32 0, .chan (some w.heap.size)] 165)).alloc (.cells #[.string label, .pointer (some ⟨lb, 0, none⟩), .slice none 0 0, .pointer (some ⟨w.heap.size + 1, 0, none⟩)] 125)).alloc (.cells #[.pointer (some ⟨w.heap.size + 1 + 1, 0, none⟩)] 58)
theorem tipW_facts (w : World) (label : ByteArray) (lb : Nat) : (tipW w label lb).heap.size = w.heap.size + 4 ∧ (tipW w label lb).heap[w.heap.size]? = some (.chan 0 #[] false 0 0 false) ∧ (tipW w label lb).heap[w.heap.size + 1]? = some (watchObj w.heap.size) ∧
    (tipW w label lb).heap[w.heap.size + 1 + 1]? = some (.cells #[.string label, .pointer (some ⟨lb, 0, none⟩), .slice none 0 0, .pointer (some ⟨w.heap.size + 1, 0, none⟩)] 125 (0, 0)) ∧ (tipW w label lb).heap[w.heap.size + 1 + 1 + 1]? = some (.cells #[.pointer (some ⟨w.heap.size + 1 + 1, 0, none⟩)] 58 (0, 0)) ∧ Below w.heap.size w (tipW w label lb) := by
  refine ⟨by simp only [tipW, World.size_alloc], ?_, ?_, ?_, ?_, ?_⟩
  · exact alloc_at (alloc_at (alloc_at (heap_alloc_new w _)))
  · refine alloc_at (alloc_at ?_)
    have := heap_alloc_new (w.alloc (.chan 0 #[] false 0 0 false)) (.cells #[.int .u32 0, .int .i32 0, .int .u32 0, .chan (some w.heap.size)] 165)
    rw [World.size_alloc] at this
    exact this
  · refine alloc_at ?_
    have := heap_alloc_new ((w.alloc (.chan 0 #[] false 0 0 false)).alloc (.cells #[.int .u32 0, .int .i32 0, .int .u32 0, .chan (some w.heap.size)] 165)) (.cells #[.string label, .pointer (some ⟨lb, 0, none⟩), .slice none 0 0, .pointer (some ⟨w.heap.size + 1, 0, none⟩)] 125)
    rw [World.size_alloc, World.size_alloc] at this
    exact this
  · have := heap_alloc_new (((w.alloc (.chan 0 #[] false 0 0 false)).alloc (.cells #[.int .u32 0, .int .i32 0, .int .u32 0, .chan (some w.heap.size)] 165)).alloc (.cells #[.string label, .pointer (some ⟨lb, 0, none⟩), .slice none 0 0, .pointer (some ⟨w.heap.size + 1, 0, none⟩)] 125)) (.cells #[.pointer (some ⟨w.heap.size + 1 + 1, 0, none⟩)] 58)
    rw [World.size_alloc, World.size_alloc, World.size_alloc] at this
    exact this
  · exact ((((Below.refl _ w).alloc (Nat.le_refl _) _).alloc (by simp only [World.size_alloc]; omega) _).alloc (by simp only [World.size_alloc]; omega) _).alloc (by simp only [World.size_alloc]; omega) _
/-- a row of its own, carried into the world with the new node, takes it -/
theorem putTip (w : World) (base : Nat) (kv : Value) (n : Nat) (ps : List Value) (i : Nat) (label : ByteArray) (lb : Nat) (hown : w.ownsRow base 58 1 kv n ps) (hi : i ≤ n) (hn : n ≤ 256) (h1c : ∀ u ∈ ps, u.oneCell' = true) (hb : base ≤ w.heap.size) :
    Calls Try.prog 103 #[kv, .int .i64 i, .slice (some ⟨w.heap.size + 1 + 1 + 1, 0, none⟩) 1 1] (tipW w label lb).drew fun e w' => ∃ v', e = .returned v' ∧ w'.ownsRow base 58 1 v' (n + 1) (ps.take i ++ ptr (w.heap.size + 1 + 1) :: ps.drop i) ∧ (tipW w label lb).grownBy w' kv.ownBlock ∧ (v'.ownBlock = kv.ownBlock ∨ v'.ownBlock = some (tipW w label lb).heap.size) := by
  obtain ⟨hs, t1, t2, t3, t4, hbel⟩ := tipW_facts w label lb
  have ho : (tipW w label lb).drew.ownsRow base 58 1 kv n ps := by
    have := (((hown.alloc (.chan 0 #[] false 0 0 false)).alloc (.cells #[.int .u32 0, .int .i32 0, .int .u32 0, .chan (some w.heap.size)] 165)).alloc (.cells #[.string label, .pointer (some ⟨lb, 0, none⟩), .slice none 0 0, .pointer (some ⟨w.heap.size + 1, 0, none⟩)] 125)).alloc (.cells #[.pointer (some ⟨w.heap.size + 1 + 1, 0, none⟩)] 58)
    exact this
  have hne : kv.ownBlock ≠ some (w.heap.size + 1 + 1 + 1) := fun e => by have := (hown.lt _ e).2; omega
  refine (insRow (tipW w label lb).drew base kv n ps i (w.heap.size + 1 + 1 + 1) 1 (ptr (w.heap.size + 1 + 1)) ho hi hn t4 rfl h1c hne (by show base ≤ (tipW w label lb).heap.size; omega)).mono ?_
  rintro e w' ⟨v', rfl, h1, h2, h3⟩
  exact ⟨v', rfl, h1, ⟨h2.os, h2.tape, h2.output, h2.size, h2.block⟩, h3⟩
def ns1 (a b : Nat × Value) : Sup := fun j => if j = 1 then b else a
theorem new_close (w0 w w2 w5 : World) (hk0 : Kept w0 w) (hs0 : w0.heap.size ≤ w.heap.size) (n : Nd) (rest : ByteArray) (l : Lf) (b : Nat) (kv m v' : Value) (i : Nat) (hn : NdAt w0 n) (hl : LfAt w0 (some l)) (hf : FreshAt w w2 n b kv m)
    (ho5 : w5.ownsRow w.heap.size 58 1 v' (n.kids.length + 1) ((ptrs n.kids).take i ++ ptr (w2.heap.size + 1 + 1) :: (ptrs n.kids).drop i)) (hg5 : (tipW w2 rest l.b).grownBy w5 kv.ownBlock) (hat5 : v'.ownBlock = kv.ownBlock ∨ v'.ownBlock = some (tipW w2 rest l.b).heap.size)
    (hb5 : w5.heap[b]? = some (.cells #[.string n.label, leafPtr n.leaf, kv, m] 125 (0, 0))) :
    Rob w0.heap.size w.heap.size (w5.setCell ⟨b, 2, none⟩ v') (.mk b n.label n.leaf (insAt i (tipN rest l (w2.heap.size + 1 + 1, ptr (w2.heap.size + 1))) n.kids) m) ∧ SupOk w.heap.size (w5.setCell ⟨b, 2, none⟩ v') (ns1 (b, m) (w2.heap.size + 1 + 1, ptr (w2.heap.size + 1))) ∧ Below w.heap.size w (w5.setCell ⟨b, 2, none⟩ v') := by
  obtain ⟨hs, t1, t2, t3, t4, hbel⟩ := tipW_facts w2 rest l.b
  obtain ⟨kv0, hb0, _, hlf, hks⟩ := hn.parts
  have hbs : b < w2.heap.size := (Array.getElem?_eq_some_iff.1 hf.blk).1
  have hkvlt := hf.row.lt
  have hne : ∀ x, w2.heap.size ≤ x → kv.ownBlock ≠ some x := fun x hx e => by have := (hkvlt x e).2; omega
  have B5 : Below w.heap.size w w5 := (hf.kept.trans ⟨hbel.os, hbel.tape, hbel.output, hbel.size, fun k hk => hbel.block k (by have := hf.kept.size; omega)⟩).trans (below_grown hg5 (by have := hf.kept.size; omega) (fun k hk => (hkvlt k hk).1))
  have B6 := kept_set B5 b hf.new 2 v'
  have K6 := Kept.of B6
  have hvb : v'.ownBlock ≠ some b := by
    rcases hat5 with e | e
    · rw [e]; exact hf.off
    · rw [e]; intro h; simp at h; omega
  have tip5 := set_at (v := v') (i := 2) (grown_at hg5 t3 (hne _ (by omega))) (show w2.heap.size + 1 + 1 ≠ b by omega)
  have hsz6 : (w5.setCell ⟨b, 2, none⟩ v').heap.size = w5.heap.size := by simp [World.setCell]
  have hsz5 := hg5.size
  obtain ⟨c, hm, hc1, hc2, hc3⟩ := hf.mark
  have c2 := set_at (v := v') (i := 2) (grown_at hg5 ((Kept.of hbel).at hc2) (owns_ne hf.row hc2 (fun cur e => by cases e))) (show c ≠ b from fun e => by rw [e, hf.blk] at hc2; cases hc2)
  have c3 := set_at (v := v') (i := 2) (grown_at hg5 ((Kept.of hbel).at hc3) (owns_ne hf.row hc3 (fun cur e => by unfold watchObj at e; cases e))) (show c + 1 ≠ b from fun e => by rw [e, hf.blk] at hc3; unfold watchObj at hc3; cases hc3)
  have d2 := set_at (v := v') (i := 2) (grown_at hg5 t1 (hne _ (Nat.le_refl _))) (show w2.heap.size ≠ b by omega)
  have d3 := set_at (v := v') (i := 2) (grown_at hg5 t2 (hne _ (by omega))) (show w2.heap.size + 1 ≠ b by omega)
  refine ⟨fun w7 hag => ?_, ⟨fun j => ?_, fun j => ?_⟩, B6⟩
  · have K7 : Kept w0 w7 := hag.kept (by have := B6.size; omega) (hk0.trans K6 hs0)
    refine NdAt.mk (kv := v') ?_ ?_ (hlf.keep K7) ((NdsAt.keep K7 _ hks).insAt i _ ?_) ⟨_, hm⟩
    · exact hag.at (heap_setCell w5 v' hb5) (.inr hf.new)
    · rw [ptrs_insAt]
      exact row_of_owns (hag.owns (owns_set ho5 hvb 2 v'))
    · exact NdAt.mk (kv := .slice none 0 0) (hag.at tip5 (.inr (by have := hf.kept.size; omega))) (.inl ⟨rfl, rfl⟩) (hl.keep K7) (by unfold NdsAt; trivial) ⟨_, rfl⟩
  · unfold ns1
    have := hf.new
    have := hf.kept.size
    split
    · rw [hsz6]; exact ⟨by show _ ≤ w2.heap.size + 1 + 1; omega, by show w2.heap.size + 1 + 1 < _; omega⟩
    · rw [hsz6]; exact ⟨hf.new, by show b < _; omega⟩
  · unfold ns1
    have := hf.kept.size
    split
    · exact ⟨w2.heap.size, rfl, by omega, d2, d3⟩
    · exact ⟨c, hm, hc1, c2, c3⟩
set_option maxHeartbeats 4000000 in
set_option maxRecDepth 100000 in
theorem ins_new (w0 w : World) (hk0 : Kept w0 w) (hs0 : w0.heap.size ≤ w.heap.size) (n : Nd) (rest : ByteArray) (l : Lf) (hn0 : NdAt w0 n) (ho : Ok n) (hl : LfAt w0 (some l)) (h0 : 0 < rest.size) (hk : kidN n rest = none) :
    Calls Try.prog 77 #[ptr n.b, .string rest, ptr l.b] w fun e w' => ∃ ns, e = .returned (.tuple #[ptr (ns 0).1, leafPtr (findN n rest)]) ∧ Rob w0.heap.size w.heap.size w' (insN n rest l ns) ∧ SupOk w.heap.size w' ns ∧ Below w.heap.size w w' := by
  have hn := NdAt.keep hk0 n hn0
  have q1 := Aside0.mk (fresh w n hn ho.few)
  have q2 := Aside0.mk (fun w1 b kv m hf => kidF w w1 n b kv m hn ho hf (fbS rest) (fbS_lt rest))
  have ex : ((fbS rest : Nat) : Int) = (rest[0].toNat : Int) := by unfold fbS; rw [← byte0 rest h0]
  have hh : hit (n.kids.map fb) (fbS rest) = false := by
    cases h : hit (n.kids.map fb) (fbS rest) with
    | false => rfl
    | true =>
      unfold kidN at hk
      rw [h, if_pos rfl] at hk
      have := hit_lt h
      rw [List.length_map] at this
      rw [List.getElem?_eq_getElem this] at hk
      cases hk
  rw [hh, ex] at q2
  have hfew := ho.few
  have hple : pos (n.kids.map fb) (fbS rest) ≤ n.kids.length := by have := pos_le (n.kids.map fb) (fbS rest); rwa [List.length_map] at this
  have ei : ∀ ns, insN n rest l ns = .mk (ns 0).1 n.label n.leaf (insAt (pos (n.kids.map fb) (fbS rest)) (tipN rest l (ns 1)) n.kids) (ns 0).2 := fun ns => by rw [insN, dif_neg (by omega)]; simp only [hk]
  have ef : findN n rest = none := by rw [findN, dif_neg (by omega)]; simp only [hk]
  rw [ef]
  have HE := Aside0.mk ei
  have HN := Aside0.mk (And.intro hn0 (And.intro hl (And.intro hfew hple)))
  have HK0 := Aside0.mk (And.intro hk0 hs0)
  have hne := full_of rest h0
  obtain ⟨i, hi⟩ : ∃ i, pos (n.kids.map fb) (fbS rest) = i := ⟨_, rfl⟩
  rw [hi] at q2
  have HI := Aside0.mk hi
  clear hn hn0 ho hl ei ef ex hh hfew hple hk hi hk0 hs0
  unfold ptr
  go_enter Try.func77, Try.ntmps77
  go_wp2_with (go_at_call 97; refine q1.out.mono ?_)
  rintro e w1 ⟨b, kv, m, rfl, hf⟩
  have q3 := Aside0.mk (q2.out w1 b kv m hf)
  have HF := Aside0.mk hf
  have k2 : w1.cell? ⟨b, 2, none⟩ = some kv := by rw [blk_cell hf.blk]; rfl
  have f2 : w1.frozen? ⟨b, 2, none⟩ = false := blk_frozen hf.blk 2
  clear hf q1 q2
  unfold ptr
  unfold ptr at q3
  go_wp2_with (go_at_call 98; refine q3.out.mono ?_)
  rintro e w2 ⟨rfl, rfl⟩
  clear q3
  go_wp2_with fail
  have q4 := Aside0.mk (putTip w2 w.heap.size kv n.kids.length (ptrs n.kids) i rest l.b HF.out.row (by have := HN.out.2.2.2; rw [HI.out] at this; exact this) HN.out.2.2.1 (fun u hu => by obtain ⟨x, _, rfl⟩ := List.mem_map.1 hu; rfl) HF.out.kept.size)
  have a1 : ∀ o, (w2.alloc o).cell? ⟨b, 2, none⟩ = some kv := fun o => cellA k2
  have a2 : ∀ o o', ((w2.alloc o).alloc o').cell? ⟨b, 2, none⟩ = some kv := fun o o' => cellA (a1 o)
  have a3 : ∀ o o' o'', (((w2.alloc o).alloc o').alloc o'').cell? ⟨b, 2, none⟩ = some kv := fun o o' o'' => cellA (a2 o o')
  have a4 : ∀ o o' o'' o''', ((((w2.alloc o).alloc o').alloc o'').alloc o''').cell? ⟨b, 2, none⟩ = some kv := fun o o' o'' o''' => cellA (a3 o o' o'')
  go_region_with (first
    | (go_at_call 50; refine (watchNew _).mono ?_; rintro e w3 ⟨rfl, rfl⟩; unfold ptr watchObj)
    | (go_at_call 103; refine q4.out.mono ?_; rintro e w5 ⟨v', rfl, ho5, hg5, hat5⟩; obtain ⟨A5, c5, rfl⟩ := owns_form ho5; have hb5 : w5.heap[b]? = some (.cells #[.string n.label, leafPtr n.leaf, kv, m] 125 (0, 0)) := grown_at hg5 ((Kept.of (tipW_facts w2 rest l.b).2.2.2.2.2).at HF.out.blk) HF.out.off; have f5 : w5.frozen? ⟨b, 2, none⟩ = false := blk_frozen hb5 2; have k5 : w5.cell? ⟨b, 2, none⟩ = some kv := (by rw [blk_cell hb5]; rfl); have H5 := Aside0.mk (And.intro ho5 (And.intro hg5 (And.intro hat5 hb5))); clear ho5 hg5 hat5 hb5))
  all_goals go_wp2_with fail
  all_goals go_ret2
  all_goals obtain ⟨h1, h2, h3, h4⟩ := H5.out
  all_goals have q5 := new_close w0 w w2 w5 HK0.out.1 HK0.out.2 n rest l b kv m _ i HN.out.1 HN.out.2.1 HF.out h1 h2 h3 h4
  all_goals exact ⟨ns1 (b, m) (w2.heap.size + 1 + 1, ptr (w2.heap.size + 1)), rfl, by rw [HE.out, HI.out]; exact q5.1, q5.2.1, q5.2.2⟩
end Go.Proofs.Ytkaeglnnahecjaa.T
