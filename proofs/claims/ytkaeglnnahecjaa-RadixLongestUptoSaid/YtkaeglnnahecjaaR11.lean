/- radix: insert at memory: a kid is split. -/
import Derived.Test.YtkaeglnnahecjaaR10
import Derived.Deep.CutRange
set_option linter.unusedVariables false
set_option linter.unusedSimpArgs false
namespace Go.Proofs.Ytkaeglnnahecjaa.T
open Go.RowKit Go.Lib Go.Proofs Go.Proofs.YtkaeglnnahecjaaW.PrintWords

theorem com_pos (n k : Nd) (rest : ByteArray) (h : kidN n rest = some k) (hr : 0 < rest.size) (hl : 0 < k.label.size) : 0 < comB k.label rest := by
  obtain ⟨hh, hlt, ek⟩ := kidN_some h
  have h1 := of_decide_eq_true hh
  rw [List.getElem?_eq_getElem (by rw [List.length_map]; exact hlt)] at h1
  have h2 : fb k = fbS rest := by rw [← ek]; simpa using h1
  unfold comB
  have e1 := drop_cons k.label 0 hl
  have e2 := drop_cons rest 0 hr
  rw [List.drop_zero] at e1 e2
  rw [e1, e2]
  unfold com
  have e3 : k.label[0] = rest[0] := by
    apply UInt8.toNat_inj.1
    rw [byte0 k.label hl, byte0 rest hr]
    exact h2
  rw [if_pos e3]
  omega
/-- the middle node, just made over the low one -/
structure MidAt (w w5 : World) (lab : ByteArray) (bl bm g : Nat) (mm : Value) : Prop where
  new : w.heap.size ≤ bm
  blk : w5.heap[bm]? = some (.cells #[.string lab, .pointer none, .slice (some ⟨g, 0, none⟩) 1 1, mm] 125 (0, 0))
  row : w5.ownsRow w.heap.size 58 1 (.slice (some ⟨g, 0, none⟩) 1 1) 1 [ptr bl]
  mark : ∃ c, mm = ptr (c + 1) ∧ w.heap.size ≤ c ∧ w5.heap[c]? = some (.chan 0 #[] false 0 0 false) ∧ w5.heap[c + 1]? = some (watchObj c)
  kept : Below w.heap.size w w5
theorem four_facts (w : World) (o1 o2 o3 o4 : Obj) : ((((w.alloc o1).alloc o2).alloc o3).alloc o4).heap.size = w.heap.size + 4 ∧ ((((w.alloc o1).alloc o2).alloc o3).alloc o4).heap[w.heap.size]? = some o1 ∧ ((((w.alloc o1).alloc o2).alloc o3).alloc o4).heap[w.heap.size + 1]? = some o2 ∧
    ((((w.alloc o1).alloc o2).alloc o3).alloc o4).heap[w.heap.size + 1 + 1]? = some o3 ∧ ((((w.alloc o1).alloc o2).alloc o3).alloc o4).heap[w.heap.size + 1 + 1 + 1]? = some o4 ∧ Below w.heap.size w ((((w.alloc o1).alloc o2).alloc o3).alloc o4) := by
  refine ⟨by simp only [World.size_alloc], ?_, ?_, ?_, ?_, ?_⟩
  · exact alloc_at (alloc_at (alloc_at (heap_alloc_new w _)))
  · refine alloc_at (alloc_at ?_)
    have := heap_alloc_new (w.alloc o1) o2
    rw [World.size_alloc] at this
    exact this
  · refine alloc_at ?_
    have := heap_alloc_new ((w.alloc o1).alloc o2) o3
    rw [World.size_alloc, World.size_alloc] at this
    exact this
  · have := heap_alloc_new (((w.alloc o1).alloc o2).alloc o3) o4
    rw [World.size_alloc, World.size_alloc, World.size_alloc] at this
    exact this
  · exact ((((Below.refl _ w).alloc (Nat.le_refl _) _).alloc (by simp only [World.size_alloc]; omega) _).alloc (by simp only [World.size_alloc]; omega) _).alloc (by simp only [World.size_alloc]; omega) _
theorem MidAt.heap {w w5 w6 : World} {lab : ByteArray} {bl bm g : Nat} {mm : Value} (h : MidAt w w5 lab bl bm g mm) (e : Qt w5 w6) : MidAt w w6 lab bl bm g mm := by
  obtain ⟨c, h1, h2, h3, h4⟩ := h.mark
  refine ⟨h.new, by rw [e.heap]; exact h.blk, ⟨h.row.1, ?_⟩, ⟨c, h1, h2, by rw [e.heap]; exact h3, by rw [e.heap]; exact h4⟩, h.kept.trans (e.below _)⟩
  rcases h.row.2 with h0 | ⟨g', cap, cur, e1, e2, e3, rest⟩
  · exact .inl h0
  · exact .inr ⟨g', cap, cur, e1, e2, by rw [e.heap]; exact e3, rest⟩
theorem midA (w : World) (lab : ByteArray) (bl : Nat) : MidAt w ((((w.alloc (.cells #[.pointer (some ⟨bl, 0, none⟩)] 58)).alloc (.chan 0 #[] false 0 0 false)).alloc (.cells #[.int .u32 0, .int .i32 0, .int .u32 0, .chan (some (w.heap.size + 1))] 165)).alloc (.cells #[.string lab, .pointer none, .slice (some ⟨w.heap.size, 0, none⟩) 1 1, .pointer (some ⟨w.heap.size + 1 + 1, 0, none⟩)] 125)) lab bl (w.heap.size + 1 + 1 + 1) w.heap.size (.pointer (some ⟨w.heap.size + 1 + 1, 0, none⟩)) := by
  obtain ⟨hs, t1, t2, t3, t4, hb⟩ := four_facts w (.cells #[.pointer (some ⟨bl, 0, none⟩)] 58) (.chan 0 #[] false 0 0 false) (.cells #[.int .u32 0, .int .i32 0, .int .u32 0, .chan (some (w.heap.size + 1))] 165) (.cells #[.string lab, .pointer none, .slice (some ⟨w.heap.size, 0, none⟩) 1 1, .pointer (some ⟨w.heap.size + 1 + 1, 0, none⟩)] 125)
  exact ⟨by omega, t4, owns_of (Nat.le_refl _) t1 (Nat.le_refl _) (by decide) rfl rfl (fun j hj => by have : j = 0 := by omega
                                                                                                      subst this; rfl), ⟨w.heap.size + 1, rfl, by omega, t2, t3⟩, hb⟩
theorem midB (w : World) (lab : ByteArray) (bl : Nat) : MidAt w ((((w.alloc (.chan 0 #[] false 0 0 false)).alloc (.cells #[.int .u32 0, .int .i32 0, .int .u32 0, .chan (some w.heap.size)] 165)).alloc (.cells #[.pointer (some ⟨bl, 0, none⟩)] 58)).alloc (.cells #[.string lab, .pointer none, .slice (some ⟨w.heap.size + 1 + 1, 0, none⟩) 1 1, .pointer (some ⟨w.heap.size + 1, 0, none⟩)] 125)) lab bl (w.heap.size + 1 + 1 + 1) (w.heap.size + 1 + 1) (.pointer (some ⟨w.heap.size + 1, 0, none⟩)) := by
  obtain ⟨hs, t1, t2, t3, t4, hb⟩ := four_facts w (.chan 0 #[] false 0 0 false) (.cells #[.int .u32 0, .int .i32 0, .int .u32 0, .chan (some w.heap.size)] 165) (.cells #[.pointer (some ⟨bl, 0, none⟩)] 58) (.cells #[.string lab, .pointer none, .slice (some ⟨w.heap.size + 1 + 1, 0, none⟩) 1 1, .pointer (some ⟨w.heap.size + 1, 0, none⟩)] 125)
  exact ⟨by omega, t4, owns_of (by omega) t3 (Nat.le_refl _) (by decide) rfl rfl (fun j hj => by have : j = 0 := by omega
                                                                                                 subst this; rfl), ⟨w.heap.size, rfl, Nat.le_refl _, t1, t2⟩, hb⟩
def midSeed (lab : ByteArray) (low : Nd) : Nd := .mk 0 lab none [low] (.pointer none)
theorem MidAt.fresh {w w5 : World} {lab : ByteArray} {low : Nd} {bm g : Nat} {mm : Value} (h : MidAt w w5 lab low.b bm g mm) : FreshAt w w5 (midSeed lab low) bm (.slice (some ⟨g, 0, none⟩) 1 1) mm := by
  refine ⟨h.new, h.blk, h.row, fun e => ?_, h.mark, h.kept⟩
  have hg : g = bm := by simpa [Value.ownBlock] using e
  have h1 := h.blk
  obtain ⟨g', cap, cur, e1, _, e2, _⟩ := owns_some h.row (by decide)
  simp at e1
  rw [← e1.1, hg, h1] at e2
  cases e2
/-- the fresh node takes a new kid: it and all beneath it stand from B on -/
theorem new_close2 (B0 B : Nat) (w w2 w5 : World) (hB : B ≤ w.heap.size) (n : Nd) (rest : ByteArray) (l : Lf) (b : Nat) (kv m v' : Value) (i : Nat) (hf : FreshAt w w2 n b kv m)
    (hold : ∀ w7, Ag B0 B (w5.setCell ⟨b, 2, none⟩ v') w7 → LfAt w7 n.leaf ∧ NdsAt w7 n.kids ∧ LfAt w7 (some l))
    (ho5 : w5.ownsRow w.heap.size 58 1 v' (n.kids.length + 1) ((ptrs n.kids).take i ++ ptr (w2.heap.size + 1 + 1) :: (ptrs n.kids).drop i)) (hg5 : (tipW w2 rest l.b).grownBy w5 kv.ownBlock) (hat5 : v'.ownBlock = kv.ownBlock ∨ v'.ownBlock = some (tipW w2 rest l.b).heap.size)
    (hb5 : w5.heap[b]? = some (.cells #[.string n.label, leafPtr n.leaf, kv, m] 125 (0, 0))) :
    Rob B0 B (w5.setCell ⟨b, 2, none⟩ v') (.mk b n.label n.leaf (insAt i (tipN rest l (w2.heap.size + 1 + 1, ptr (w2.heap.size + 1))) n.kids) m) ∧ SupOk w.heap.size (w5.setCell ⟨b, 2, none⟩ v') (ns1 (b, m) (w2.heap.size + 1 + 1, ptr (w2.heap.size + 1))) ∧ Below w.heap.size w (w5.setCell ⟨b, 2, none⟩ v') := by
  obtain ⟨hs, t1, t2, t3, t4, hbel⟩ := tipW_facts w2 rest l.b
  have hbs : b < w2.heap.size := (Array.getElem?_eq_some_iff.1 hf.blk).1
  have hkvlt := hf.row.lt
  have hne : ∀ x, w2.heap.size ≤ x → kv.ownBlock ≠ some x := fun x hx e => by have := (hkvlt x e).2; omega
  have B5 : Below w.heap.size w w5 := (hf.kept.trans ⟨hbel.os, hbel.tape, hbel.output, hbel.size, fun k hk => hbel.block k (by have := hf.kept.size; omega)⟩).trans (below_grown hg5 (by have := hf.kept.size; omega) (fun k hk => (hkvlt k hk).1))
  have B6 := kept_set B5 b hf.new 2 v'
  have hvb : v'.ownBlock ≠ some b := by
    rcases hat5 with e | e
    · rw [e]; exact hf.off
    · rw [e]; intro h; simp at h; omega
  have tip5 := set_at (v := v') (i := 2) (grown_at hg5 t3 (hne _ (by omega))) (show w2.heap.size + 1 + 1 ≠ b by omega)
  have hsz6 : (w5.setCell ⟨b, 2, none⟩ v').heap.size = w5.heap.size := by simp [World.setCell]
  have hsz5 := hg5.size
  obtain ⟨c, hm, hc1, hc2, hc3⟩ := hf.mark
  have c2 := set_at (v := v') (i := 2) (grown_at hg5 ((Kept.of hbel).at hc2) (owns_ne hf.row hc2 (fun cur e => by cases e))) (show c ≠ b from fun e => by rw [e, hf.blk] at hc2; cases hc2)
  have c3 := set_at (v := v') (i := 2) (grown_at hg5 ((Kept.of hbel).at hc3) (owns_ne hf.row hc3 (fun cur e => by unfold watchObj at e; cases e))) (show c + 1 ≠ b from fun e => by rw [e, hf.blk] at hc3; unfold watchObj at hc3; cases hc3)
  have d2 := set_at (v := v') (i := 2) (grown_at hg5 t1 (hne _ (Nat.le_refl _))) (show w2.heap.size ≠ b by omega)
  have d3 := set_at (v := v') (i := 2) (grown_at hg5 t2 (hne _ (by omega))) (show w2.heap.size + 1 ≠ b by omega)
  refine ⟨fun w7 hag => ?_, ⟨fun j => ?_, fun j => ?_⟩, B6⟩
  · obtain ⟨o1, o2, o3⟩ := hold w7 hag
    have hagw : Ag B0 w.heap.size (w5.setCell ⟨b, 2, none⟩ v') w7 := fun x hx hb => hag x hx (by omega)
    refine NdAt.mk (kv := v') ?_ ?_ o1 (o2.insAt i _ ?_) ⟨_, hm⟩
    · exact hag.at (heap_setCell w5 v' hb5) (.inr (by have := hf.new; omega))
    · rw [ptrs_insAt]
      exact row_of_owns (hagw.owns (owns_set ho5 hvb 2 v'))
    · exact NdAt.mk (kv := .slice none 0 0) (hag.at tip5 (.inr (by have := hf.kept.size; omega))) (.inl ⟨rfl, rfl⟩) o3 (by unfold NdsAt; trivial) ⟨_, rfl⟩
  · unfold ns1
    have := hf.new
    have := hf.kept.size
    split
    · rw [hsz6]; exact ⟨by show _ ≤ w2.heap.size + 1 + 1; omega, by show w2.heap.size + 1 + 1 < _; omega⟩
    · rw [hsz6]; exact ⟨hf.new, by show b < _; omega⟩
  · unfold ns1
    have := hf.kept.size
    split
    · exact ⟨w2.heap.size, rfl, by omega, d2, d3⟩
    · exact ⟨c, hm, hc1, c2, c3⟩
/-- the fresh node takes a leaf -/
theorem leaf_close2 (B0 B : Nat) (w w1 : World) (hB : B ≤ w.heap.size) (n : Nd) (l : Lf) (b : Nat) (kv m : Value) (hf : FreshAt w w1 n b kv m)
    (hold : ∀ w7, Ag B0 B (w1.setCell ⟨b, 1, none⟩ (.pointer (some ⟨l.b, 0, none⟩))) w7 → NdsAt w7 n.kids ∧ LfAt w7 (some l)) :
    Rob B0 B (w1.setCell ⟨b, 1, none⟩ (.pointer (some ⟨l.b, 0, none⟩))) (.mk b n.label (some l) n.kids m) ∧ SupOk w.heap.size (w1.setCell ⟨b, 1, none⟩ (.pointer (some ⟨l.b, 0, none⟩))) (fun _ => (b, m)) ∧ Below w.heap.size w (w1.setCell ⟨b, 1, none⟩ (.pointer (some ⟨l.b, 0, none⟩))) := by
  have KB := kept_set hf.kept b hf.new 1 (.pointer (some ⟨l.b, 0, none⟩))
  obtain ⟨c, hm, hc1, hc2, hc3⟩ := hf.mark
  have n1 : c ≠ b := fun e => by rw [e, hf.blk] at hc2; cases hc2
  have n2 : c + 1 ≠ b := fun e => by rw [e, hf.blk] at hc3; unfold watchObj at hc3; cases hc3
  refine ⟨fun w7 hag => ?_, ⟨fun j => ⟨hf.new, ?_⟩, fun j => ⟨c, hm, hc1, set_at hc2 n1, set_at hc3 n2⟩⟩, KB⟩
  · obtain ⟨o2, o3⟩ := hold w7 hag
    have hagw : Ag B0 w.heap.size (w1.setCell ⟨b, 1, none⟩ (.pointer (some ⟨l.b, 0, none⟩))) w7 := fun x hx hb => hag x hx (by omega)
    refine NdAt.mk (kv := kv) ?_ ?_ o3 o2 ⟨_, hm⟩
    · exact hag.at (heap_setCell w1 (g := b) (o := 1) (.pointer (some ⟨l.b, 0, none⟩)) hf.blk) (.inr (by have := hf.new; omega))
    · exact row_of_owns (hagw.owns (owns_set hf.row hf.off 1 (.pointer (some ⟨l.b, 0, none⟩))))
  · have := (Array.getElem?_eq_some_iff.1 hf.blk).1
    simpa [World.setCell] using this
set_option maxHeartbeats 4000000 in
set_option maxRecDepth 100000 in
theorem ins_split (w0 w : World) (hk0 : Kept w0 w) (hs0 : w0.heap.size ≤ w.heap.size) (n k : Nd) (rest : ByteArray) (l : Lf) (hn0 : NdAt w0 n) (ho : Ok n) (hl : LfAt w0 (some l)) (h0 : 0 < rest.size) (hbig : rest.size < 4000000000000) (hk : kidN n rest = some k) (hp : ¬ (0 < comB k.label rest ∧ comB k.label rest = k.label.size)) (hlab : k.label.size < 4000000000000) :
    Calls Try.prog 77 #[ptr n.b, .string rest, ptr l.b] w fun e w' => ∃ ns, e = .returned (.tuple #[ptr (ns 0).1, leafPtr (findN n rest)]) ∧ Rob w0.heap.size w.heap.size w' (insN n rest l ns) ∧ SupOk w.heap.size w' ns ∧ Below w.heap.size w w' := by
  obtain ⟨hh, hlt, ek⟩ := kidN_some hk
  have hn := NdAt.keep hk0 n hn0
  have q1 := Aside0.mk (fresh w n hn ho.few)
  have q2 := Aside0.mk (fun w1 b kv m hf => kidF w w1 n b kv m hn ho hf (fbS rest) (fbS_lt rest))
  have ex : ((fbS rest : Nat) : Int) = (rest[0].toNat : Int) := by unfold fbS; rw [← byte0 rest h0]
  rw [hh, ex] at q2
  have hfew := ho.few
  have ei : ∀ ns, insN n rest l ns = .mk (ns 0).1 n.label n.leaf (n.kids.set (pos (n.kids.map fb) (fbS rest)) (splitN k (comB k.label rest) rest l ns)) (ns 0).2 := fun ns => by rw [insN, dif_neg (by omega)]; simp only [hk]; rw [dif_neg hp]
  have ef : findN n rest = none := by rw [findN, dif_neg (by omega)]; simp only [hk]; rw [dif_neg hp]
  rw [ef]
  have hcle := comB_le k.label rest
  have hkm : k ∈ n.kids := by rw [← ek]; exact List.getElem_mem _
  have hkl := ho.parts.2.1 k hkm
  have hcp := com_pos n k rest hk h0 hkl
  have hkAt : NdAt w0 k := by rw [← ek]; exact hn0.parts.choose_spec.2.2.2.get _ hlt
  have HK0 := Aside0.mk (And.intro hk0 hs0)
  obtain ⟨i, hi⟩ : ∃ i, pos (n.kids.map fb) (fbS rest) = i := ⟨_, rfl⟩
  obtain ⟨p, ep⟩ : ∃ p, comB k.label rest = p := ⟨_, rfl⟩
  obtain ⟨len, elen⟩ : ∃ len, n.kids.length = len := ⟨_, rfl⟩
  have hne := full_of rest h0
  have q5 := Aside0.mk (fun w1 => common w1 k.label rest (by omega))
  rw [ep] at q5 hcle hcp hp
  have hpl : p < k.label.size := by omega
  have hplI : (p : Int) ≤ (k.label.size : Int) := by omega
  have hpr : p ≤ rest.size := hcle.2
  have hprI : (p : Int) ≤ (rest.size : Int) := by omega
  have hpne : ¬ ((p : Int) = (k.label.size : Int)) := by omega
  rw [hi] at q2
  have hlt' : i < len := by rw [← hi, ← elen]; exact hlt
  have HE := Aside0.mk ei
  have HN := Aside0.mk (And.intro hn0 (And.intro hl (And.intro hkAt (And.intro hi (And.intro ep (And.intro elen (And.intro hcp ho)))))))
  have HK := Aside0.mk (And.intro hlt ek)
  clear hn hn0 hk0 hs0 ho hl ei ef ex hh hfew hk hi ek hkAt ep hp hcle hkm hkl hcp
  unfold ptr
  go_enter Try.func77, Try.ntmps77
  go_wp2_with (go_at_call 97; refine q1.out.mono ?_)
  rintro e w1 ⟨b, kv, m, rfl, hf⟩
  have q3 := Aside0.mk (q2.out w1 b kv m hf)
  have HF := Aside0.mk hf
  obtain ⟨g, cap, cur, rfl, hgb, hgg, hgc, hgn, hgm, hgs⟩ := owns_some hf.row (by omega)
  rw [elen] at hf hgc hgn HF
  have k2 : w1.cell? ⟨b, 2, none⟩ = some (.slice (some ⟨g, 0, none⟩) len cap) := by rw [blk_cell hf.blk]; rfl
  have ki : w1.cell? ⟨g, i, none⟩ = some (.pointer (some ⟨k.b, 0, none⟩)) := by
    rw [blk_cell hgg, hgc i hlt']
    have h1 := HK.out
    have h2 := HN.out.2.2.2.1
    obtain ⟨h3, h4⟩ := h1
    simp only [h2] at h3 h4
    simp [ptrs, List.getElem?_eq_getElem h3, h4, ptr]
  have hk1 := HN.out.2.2.1
  have K1 := HK0.out.1.trans (Kept.of hf.kept) HK0.out.2
  obtain ⟨kvk, hbk0, hrk, hlk, hksk⟩ := hk1.parts
  obtain ⟨mb, emk⟩ := hk1.markP
  have hbk := K1.at hbk0
  obtain ⟨lp, elp⟩ := leafPtr_form k.leaf
  obtain ⟨Ak, ck, rfl, _⟩ := hrk.open
  obtain ⟨lk, elk⟩ : ∃ lk, (ptrs k.kids).length = lk := ⟨_, rfl⟩
  rw [emk, elp, elk] at hbk
  unfold ptr at hbk
  have kl : w1.cell? ⟨k.b, 0, none⟩ = some (.string k.label) := by rw [blk_cell hbk]; rfl
  have kl1 : w1.cell? ⟨k.b, 1, none⟩ = some (.pointer lp) := by rw [blk_cell hbk]; rfl
  have kl2 : w1.cell? ⟨k.b, 2, none⟩ = some (.slice Ak lk ck) := by rw [blk_cell hbk]; rfl
  have kl3 : w1.cell? ⟨k.b, 3, none⟩ = some (.pointer (some ⟨mb, 0, none⟩)) := by rw [blk_cell hbk]; rfl
  have HG := Aside0.mk (And.intro hgb (And.intro hgg (And.intro hgc (And.intro hgn (And.intro hgm hgs)))))
  have HKB := Aside0.mk (And.intro hbk (And.intro hrk (And.intro emk (And.intro elp (And.intro elk (And.intro hlk hksk))))))
  clear hf q1 q2 hgb hgg hgc hgn hgm hgs hk1 hbk hbk0 hrk emk elp elk K1 hlk hksk
  unfold ptr
  unfold ptr at q3
  go_wp2_with (go_at_call 98; refine q3.out.mono ?_)
  rintro e w2 ⟨rfl, rfl⟩
  clear q3
  go_wp2_with (go_at_call 89; refine (q5.out _).mono ?_)
  rintro e w3 ⟨rfl, hQ⟩
  have k2' := hQ.cell k2
  have ki' := hQ.cell ki
  have kl' := hQ.cell kl
  have kl1' := hQ.cell kl1
  have kl2' := hQ.cell kl2
  have kl3' := hQ.cell kl3
  have HQ := Aside0.mk hQ
  clear hQ q5 k2 ki kl kl1 kl2 kl3
  go_wp2_with fail
  go_region_held3 (fun w' => w'.cell? ⟨k.b, 0, none⟩ = some (.string k.label) ∧ w'.cell? ⟨k.b, 1, none⟩ = some (.pointer lp) ∧ w'.cell? ⟨k.b, 2, none⟩ = some (.slice Ak lk ck) ∧ w'.cell? ⟨k.b, 3, none⟩ = some (.pointer (some ⟨mb, 0, none⟩)))
    (first | exact ⟨kl', kl1', kl2', kl3'⟩ | exact ⟨cellA kl', cellA kl1', cellA kl2', cellA kl3'⟩) (fail)
  go_upto_region 16 with fail
  go_cut [15] from 113 to 120 (fun s15 wx => ∃ (bm g5 : Nat) (mm : Value), s15 = .pointer (some ⟨bm, 0, none⟩) ∧ Aside0 (MidAt (w3.alloc (.cells #[.string (k.label.extract p k.label.size), .pointer lp, .slice Ak lk ck, .pointer (some ⟨mb, 0, none⟩)] 125)) wx (rest.extract 0 p) w3.heap.size bm g5 mm))
  case first =>
    go_region_with (go_at_call 50; refine (watchNew _).mono ?_; rintro e w' ⟨rfl, rfl⟩; unfold ptr watchObj)
    all_goals (go_wp2_with fail; go_meet)
    · have hA := midA (w3.alloc (.cells #[.string (k.label.extract p k.label.size), .pointer lp, .slice Ak lk ck, .pointer (some ⟨mb, 0, none⟩)] 125)) (rest.extract 0 p) w3.heap.size
      simp only [World.size_alloc] at hA
      exact ⟨_, _, _, rfl, ⟨hA.heap ⟨rfl, rfl, rfl, rfl⟩⟩⟩
    · have hA := midB (w3.alloc (.cells #[.string (k.label.extract p k.label.size), .pointer lp, .slice Ak lk ck, .pointer (some ⟨mb, 0, none⟩)] 125)) (rest.extract 0 p) w3.heap.size
      simp only [World.size_alloc] at hA
      exact ⟨_, _, _, rfl, ⟨hA.heap ⟨rfl, rfl, rfl, rfl⟩⟩⟩
  case rest =>
    obtain ⟨bm, g5, mm, rfl, HM⟩ := hcut
    obtain ⟨hbk0, hrk, emk, elp, elk, hlk, hksk⟩ := HKB.out
    have hM := HM.out
    have hs3 : w3.heap.size = w2.heap.size := by rw [HQ.out.heap]
    have hsw := HF.out.kept.size
    have hsM := hM.kept.size
    simp only [World.size_alloc] at hsM
    have hbmn := hM.new
    simp only [World.size_alloc] at hbmn
    have hbs : b < w2.heap.size := (Array.getElem?_eq_some_iff.1 HF.out.blk).1
    have hgs2 : g < w2.heap.size := (Array.getElem?_eq_some_iff.1 HG.out.2.1).1
    have K3c : Kept w3 wc := Kept.trans (b := w3.alloc (.cells #[.string (k.label.extract p k.label.size), .pointer lp, .slice Ak lk ck, .pointer (some ⟨mb, 0, none⟩)] 125)) (Kept.of ((Below.refl _ w3).alloc (Nat.le_refl _) _)) (Kept.of hM.kept) (by simp only [World.size_alloc]; omega)
    have up : ∀ {x : Nat} {o : Obj}, w2.heap[x]? = some o → wc.heap[x]? = some o := fun {x o} h => K3c.at (by rw [HQ.out.heap]; exact h)
    have lowAt := (Kept.of hM.kept).at (heap_alloc_new w3 (.cells #[.string (k.label.extract p k.label.size), .pointer lp, .slice Ak lk ck, .pointer (some ⟨mb, 0, none⟩)] 125))
    have B3c : Below w3.heap.size w3 wc := ((Below.refl _ w3).alloc (Nat.le_refl _) _).trans ⟨hM.kept.os, hM.kept.tape, hM.kept.output, hM.kept.size, fun x hx => hM.kept.block x (by simp only [World.size_alloc]; omega)⟩
    have K0c : Kept w0 wc := ((HK0.out.1.trans (Kept.of HF.out.kept) HK0.out.2).trans HQ.out.kept (by have := HK0.out.2; omega)).trans K3c (by have := HK0.out.2; omega)
    have kb2 : wc.cell? ⟨b, 2, none⟩ = some (.slice (some ⟨g, 0, none⟩) len cap) := by rw [blk_cell (up HF.out.blk)]; rfl
    have kgi := K3c.cell ki'
    have fgi : wc.frozen? ⟨g, i, none⟩ = false := blk_frozen (up HG.out.2.1) i
    have kbm1 : wc.cell? ⟨bm, 1, none⟩ = some (.pointer none) := by rw [blk_cell hM.blk]; rfl
    have fbm1 : wc.frozen? ⟨bm, 1, none⟩ = false := blk_frozen hM.blk 1
    have kbm2 : wc.cell? ⟨bm, 2, none⟩ = some (.slice (some ⟨g5, 0, none⟩) 1 1) := by rw [blk_cell hM.blk]; rfl
    have fbm2 : wc.frozen? ⟨bm, 2, none⟩ = false := blk_frozen hM.blk 2
    have nbm : ¬ b = bm := by omega
    have ngm : ¬ g = bm := by omega
    have nbm' : ¬ bm = b := by omega
    have ngm' : ¬ bm = g := by omega
    -- the low node stands
    have hrk' : Row w0 (.slice Ak lk ck) (ptrs k.kids) := by rw [← elk]; exact hrk
    have lowOk : ∀ (w4 w7 : World), Ag w0.heap.size w3.heap.size w4 w7 → Kept w0 w4 → w0.heap.size ≤ w4.heap.size → w4.heap[w3.heap.size]? = some (.cells #[.string (k.label.extract p k.label.size), .pointer lp, .slice Ak lk ck, .pointer (some ⟨mb, 0, none⟩)] 125 (0, 0)) → NdsAt w7 [lowN k p w3.heap.size] ∧ LfAt w7 (some l) := fun w4 w7 hag h1 h2 h3 => by
      have K7 := hag.kept h2 h1
      refine ⟨?_, HN.out.2.1.keep K7⟩
      unfold NdsAt
      refine ⟨NdAt.mk (kv := .slice Ak lk ck) ?_ (hrk'.keep K7) (hlk.keep K7) (NdsAt.keep K7 _ hksk) ⟨mb, emk⟩, by unfold NdsAt; trivial⟩
      rw [elp, emk]
      exact hag.at h3 (.inr (Nat.le_refl _))
    have HUP := Aside0.mk (And.intro hs3 (And.intro hsw (And.intro hsM (And.intro hbmn (And.intro K3c (And.intro lowAt (And.intro B3c (And.intro K0c lowOk))))))))
    have HUP2 := Aside0.mk (fun (x : Nat) (o : Obj) => up (x := x) (o := o))
    have HKB2 := Aside0.mk (And.intro hbk0 (And.intro hrk (And.intro emk (And.intro elp (And.intro elk (And.intro hlk hksk))))))
    clear hbk0 hrk hrk' emk elp elk hlk hksk hM hs3 hsw hsM hbmn hbs hgs2 K3c lowAt B3c K0c lowOk up ki' kl' kl1' kl2' kl3' HKB k2'
    by_cases hpe : p = rest.size
    · subst hpe
      go_wp2_with fail
      go_ret2
      obtain ⟨hs3, hsw, hsM, hbmn, K3c, lowAt, B3c, K0c, lowOk⟩ := HUP.out
      have hw4s : ∀ v, (wc.setCell ⟨bm, 1, none⟩ v).heap.size = wc.heap.size := fun v => by simp [World.setCell]
      have hcl := leaf_close2 w0.heap.size w3.heap.size (w3.alloc (.cells #[.string (k.label.extract rest.size k.label.size), .pointer lp, .slice Ak lk ck, .pointer (some ⟨mb, 0, none⟩)] 125)) wc (by simp only [World.size_alloc]; omega) (midSeed (rest.extract 0 rest.size) (lowN k rest.size w3.heap.size)) l bm _ mm (MidAt.fresh (low := lowN k rest.size w3.heap.size) HM.out)
        (fun w7 hag => lowOk _ w7 hag (fun x hx => (Below.heap_setCell _ _ _ x (by show x ≠ bm; have := HK0.out.2; omega)).trans (K0c x hx)) (by rw [hw4s]; have := HK0.out.2; omega) (set_at lowAt (by omega)))
      obtain ⟨c1, c2, c3⟩ := hcl
      obtain ⟨hgb, hgg, hgc, hgn, hgm, hgs⟩ := HG.out
      obtain ⟨hn, hl, hkAt, hi, ep, elen', hcp, ho⟩ := HN.out
      subst elen
      have sup : SupOk w3.heap.size (wc.setCell ⟨bm, 1, none⟩ (.pointer (some ⟨l.b, 0, none⟩))) (fun j => if j = 1 then (w3.heap.size, mm) else (bm, mm)) := by
        refine ⟨fun j => ?_, fun j => ?_⟩
        · split
          · exact ⟨Nat.le_refl _, by rw [hw4s]; show w3.heap.size < _; omega⟩
          · have h := c2.new 0
            simp only [World.size_alloc] at h
            exact ⟨by show _ ≤ bm; omega, h.2⟩
        · obtain ⟨d, e1, e2, e3, e4⟩ := c2.mark 0
          simp only [World.size_alloc] at e2
          split
          · exact ⟨d, e1, by omega, e3, e4⟩
          · exact ⟨d, e1, by omega, e3, e4⟩
      have B34 : Below w3.heap.size w3 (wc.setCell ⟨bm, 1, none⟩ (.pointer (some ⟨l.b, 0, none⟩))) := kept_set B3c bm (by omega) 1 _
      have q7 := deep_close w0 w w2 w3 (wc.setCell ⟨bm, 1, none⟩ (.pointer (some ⟨l.b, 0, none⟩))) HK0.out.1 HK0.out.2 n _ b g cap i cur m _ hn HF.out HQ.out hgb hgg hgc hgn hgm hgs hlt' c1 sup B34 rfl
      refine ⟨nsUp (b, m) (fun j => if j = 1 then (w3.heap.size, mm) else (bm, mm)), rfl, ?_, q7.2.1, q7.2.2⟩
      have e7 := HE.out (nsUp (b, m) (fun j => if j = 1 then (w3.heap.size, mm) else (bm, mm)))
      rw [hi, ep] at e7
      rw [e7]
      unfold splitN
      rw [if_pos rfl]
      exact q7.1
    · have hpeI : ¬ ((p : Int) = (rest.size : Int)) := by omega
      have hplt : p < rest.size := by omega
      have ex2 : ((fbAt rest p : Nat) : Int) = (rest[p].toNat : Int) := by unfold fbAt; rw [← byteAt rest p hplt]
      have hlowlab : 0 < (lowN k p w3.heap.size).label.size := by
        show 0 < (k.label.extract p k.label.size).size
        simp only [ByteArray.size_extract]
        omega
      have qk := kidOf wc bm (rest.extract 0 p) (.pointer none) (.slice (some ⟨g5, 0, none⟩) 1 1) mm [lowN k p w3.heap.size] (fbAt rest p) HM.out.blk (row_of_owns HM.out.row)
        ((HUP.out.2.2.2.2.2.2.2.2 wc wc (Ag.refl _ _ _) HUP.out.2.2.2.2.2.2.2.1 (by have h := HUP.out; have := HK0.out.2; omega) HUP.out.2.2.2.2.2.1).1) (by simp) (by simpa using hlowlab) (UInt8.toNat_lt _) (by simp)
      rw [ex2] at qk
      obtain ⟨j, ej⟩ : ∃ j, pos ([lowN k p w3.heap.size].map fb) (fbAt rest p) = j := ⟨_, rfl⟩
      obtain ⟨hb2, ehb⟩ : ∃ hb2, hit ([lowN k p w3.heap.size].map fb) (fbAt rest p) = hb2 := ⟨_, rfl⟩
      rw [ej, ehb] at qk
      have hj1 : j ≤ 1 := by rw [← ej]; exact pos_le _ _
      have HJ := Aside0.mk (And.intro ej (And.intro ehb (And.intro hj1 hplt)))
      unfold ptr at qk
      have q8 := Aside0.mk qk
      have q4 := Aside0.mk (putTip wc (w3.alloc (.cells #[.string (k.label.extract p k.label.size), .pointer lp, .slice Ak lk ck, .pointer (some ⟨mb, 0, none⟩)] 125)).heap.size (.slice (some ⟨g5, 0, none⟩) 1 1) 1 [ptr w3.heap.size] j (rest.extract p rest.size) l.b HM.out.row hj1 (by omega) (fun u hu => by rw [List.mem_singleton] at hu; rw [hu]; rfl) HM.out.kept.size)
      clear ej ehb hj1 qk ex2 hlowlab
      go_wp2_with (go_at_call 98; refine q8.out.mono ?_)
      rintro e wd ⟨rfl, hwd⟩
      subst hwd
      clear q8
      go_upto_region 20 with fail
      have a1 : ∀ o, (wd.alloc o).cell? ⟨bm, 2, none⟩ = some (.slice (some ⟨g5, 0, none⟩) 1 1) := fun o => cellA kbm2
      have a2 : ∀ o o', ((wd.alloc o).alloc o').cell? ⟨bm, 2, none⟩ = some (.slice (some ⟨g5, 0, none⟩) 1 1) := fun o o' => cellA (a1 o)
      have a3 : ∀ o o' o2, (((wd.alloc o).alloc o').alloc o2).cell? ⟨bm, 2, none⟩ = some (.slice (some ⟨g5, 0, none⟩) 1 1) := fun o o' o2 => cellA (a2 o o')
      have a4 : ∀ o o' o2 o3, ((((wd.alloc o).alloc o').alloc o2).alloc o3).cell? ⟨bm, 2, none⟩ = some (.slice (some ⟨g5, 0, none⟩) 1 1) := fun o o' o2 o3 => cellA (a3 o o' o2)
      go_cut [] from 137 to 153 (fun wx => ∃ (w5 : World) (v' : Value), Aside0 (w5.ownsRow (w3.alloc (.cells #[.string (k.label.extract p k.label.size), .pointer lp, .slice Ak lk ck, .pointer (some ⟨mb, 0, none⟩)] 125)).heap.size 58 1 v' 2 (([ptr w3.heap.size] : List Value).take j ++ ptr (wd.heap.size + 1 + 1) :: ([ptr w3.heap.size] : List Value).drop j) ∧
        (tipW wd (rest.extract p rest.size) l.b).grownBy w5 (some g5) ∧ (v'.ownBlock = some g5 ∨ v'.ownBlock = some (tipW wd (rest.extract p rest.size) l.b).heap.size) ∧ w5.heap[bm]? = some (.cells #[.string (rest.extract 0 p), .pointer none, .slice (some ⟨g5, 0, none⟩) 1 1, mm] 125 (0, 0))) ∧ wx = w5.setCell ⟨bm, 2, none⟩ v')
      case first =>
        go_region_with (first
          | (go_at_call 50; refine (watchNew _).mono ?_; rintro e wz ⟨rfl, rfl⟩; unfold ptr watchObj)
          | (go_at_call 103; refine q4.out.mono ?_; rintro e w5 ⟨v', rfl, ho5, hg5, hat5⟩; obtain ⟨A5, c5, rfl⟩ := owns_form ho5; have hb5 : w5.heap[bm]? = some (.cells #[.string (rest.extract 0 p), .pointer none, .slice (some ⟨g5, 0, none⟩) 1 1, mm] 125 (0, 0)) := grown_at hg5 ((Kept.of (tipW_facts wd (rest.extract p rest.size) l.b).2.2.2.2.2).at HM.out.blk) (MidAt.fresh (low := lowN k p w3.heap.size) HM.out).off; have f5 : w5.frozen? ⟨bm, 2, none⟩ = false := blk_frozen hb5 2; have k5 : w5.cell? ⟨bm, 2, none⟩ = some (.slice (some ⟨g5, 0, none⟩) 1 1) := (by rw [blk_cell hb5]; rfl); have H5 := Aside0.mk (And.intro ho5 (And.intro hg5 (And.intro hat5 hb5))); clear ho5 hg5 hat5 hb5))
        all_goals (go_wp2_with fail; go_meet)
        all_goals exact ⟨w5, _, H5, rfl⟩
      case rest =>
        obtain ⟨w5, v', H5, rfl⟩ := hcut
        obtain ⟨h1, h2, h3, h4⟩ := H5.out
        have hg5n : w3.heap.size + 1 ≤ g5 := by
          have h := (HM.out.row.lt g5 rfl).1
          simp only [World.size_alloc] at h
          exact h
        have hs3 := HUP.out.1
        have hbs : b < w2.heap.size := (Array.getElem?_eq_some_iff.1 HF.out.blk).1
        have hgs2 : g < w2.heap.size := (Array.getElem?_eq_some_iff.1 HG.out.2.1).1
        have ktip := Kept.of (tipW_facts wd (rest.extract p rest.size) l.b).2.2.2.2.2
        have b5 : w5.heap[b]? = some (.cells #[.string n.label, leafPtr n.leaf, .slice (some ⟨g, 0, none⟩) len cap, m] 125 (0, 0)) := grown_at h2 (ktip.at (HUP2.out _ _ HF.out.blk)) (fun e => by have e' := Option.some.inj e; omega)
        have gg5 : w5.heap[g]? = some (.cells cur 58 (0, 0)) := grown_at h2 (ktip.at (HUP2.out _ _ HG.out.2.1)) (fun e => by have e' := Option.some.inj e; omega)
        have kb5 : w5.cell? ⟨b, 2, none⟩ = some (.slice (some ⟨g, 0, none⟩) len cap) := by rw [blk_cell b5]; rfl
        have fg5 : w5.frozen? ⟨g, i, none⟩ = false := blk_frozen gg5 i
        have kg5 : w5.cell? ⟨g, i, none⟩ = some (.pointer (some ⟨k.b, 0, none⟩)) := by
          rw [blk_cell gg5, ← blk_cell (HUP2.out _ _ HG.out.2.1)]
          exact kgi
        have H5B := Aside0.mk (And.intro b5 (And.intro gg5 (And.intro hg5n (And.intro hs3 (And.intro hbs (And.intro hgs2 ktip))))))
        clear h1 h2 h3 h4 b5 gg5 hg5n hs3 hbs hgs2 ktip a1 a2 a3 a4 kbm1 kbm2 fbm1 fbm2 kb2 kgi fgi
        go_wp2_with fail
        go_ret2
        obtain ⟨h1, h2, h3, h4⟩ := H5.out
        obtain ⟨b5, gg5, hg5n, hs3, hbs, hgs2, ktip⟩ := H5B.out
        obtain ⟨_, hsw, hsM, hbmn, K3c, lowAt, B3c, K0c, lowOk⟩ := HUP.out
        have hw0w := HK0.out.2
        have tsz := (tipW_facts wd (rest.extract p rest.size) l.b).1
        have hsz5 := h2.size
        have hw4s : (w5.setCell ⟨bm, 2, none⟩ v').heap.size = w5.heap.size := by simp [World.setCell]
        have low5 := set_at (v := v') (i := 2) (grown_at h2 (ktip.at lowAt) (fun e => by have e' := Option.some.inj e; omega)) (show w3.heap.size ≠ bm by omega)
        have K05 : Kept w0 (w5.setCell ⟨bm, 2, none⟩ v') := fun x hx => by
          rw [Below.heap_setCell w5 ⟨bm, 2, none⟩ v' x (by show x ≠ bm; omega)]
          rw [h2.block x (by omega) (fun e => by have e' := Option.some.inj e; omega)]
          rw [ktip x (by omega)]
          exact K0c x hx
        have hcl := new_close2 w0.heap.size w3.heap.size (w3.alloc (.cells #[.string (k.label.extract p k.label.size), .pointer lp, .slice Ak lk ck, .pointer (some ⟨mb, 0, none⟩)] 125)) wd w5 (by simp only [World.size_alloc]; omega) (midSeed (rest.extract 0 p) (lowN k p w3.heap.size)) (rest.extract p rest.size) l bm _ mm v' j (MidAt.fresh (low := lowN k p w3.heap.size) HM.out)
          (fun w7 hag => ⟨fun l' e => (by cases e), lowOk _ w7 hag K05 (by rw [hw4s]; omega) low5⟩) h1 h2 h3 h4
        obtain ⟨c1, c2, c3⟩ := hcl
        obtain ⟨hgb, hgg, hgc, hgn, hgm, hgs⟩ := HG.out
        obtain ⟨hn, hl, hkAt, hi, ep, elen', hcp, ho⟩ := HN.out
        subst elen
        have sup : SupOk w3.heap.size (w5.setCell ⟨bm, 2, none⟩ v') (fun j' => if j' = 1 then (w3.heap.size, mm) else if j' = 2 then (wd.heap.size + 1 + 1, ptr (wd.heap.size + 1)) else (bm, mm)) := by
          have u0 := c2.new 0
          have u1 := c2.new 1
          have v0 := c2.mark 0
          have v1 := c2.mark 1
          simp only [World.size_alloc] at u0 u1
          have u0' : w3.heap.size + 1 ≤ bm ∧ bm < (w5.setCell ⟨bm, 2, none⟩ v').heap.size := u0
          have u1' : w3.heap.size + 1 ≤ wd.heap.size + 1 + 1 ∧ wd.heap.size + 1 + 1 < (w5.setCell ⟨bm, 2, none⟩ v').heap.size := u1
          have v0' : NewMark w3.heap.size (w5.setCell ⟨bm, 2, none⟩ v') mm := NewMark.mono (B := (w3.alloc (.cells #[.string (k.label.extract p k.label.size), .pointer lp, .slice Ak lk ck, .pointer (some ⟨mb, 0, none⟩)] 125)).heap.size) v0 (by simp only [World.size_alloc]; omega)
          have v1' : NewMark w3.heap.size (w5.setCell ⟨bm, 2, none⟩ v') (ptr (wd.heap.size + 1)) := NewMark.mono (B := (w3.alloc (.cells #[.string (k.label.extract p k.label.size), .pointer lp, .slice Ak lk ck, .pointer (some ⟨mb, 0, none⟩)] 125)).heap.size) v1 (by simp only [World.size_alloc]; omega)
          refine ⟨fun j' => ?_, fun j' => ?_⟩
          · split
            · exact ⟨Nat.le_refl _, by show w3.heap.size < _; omega⟩
            · split
              · exact ⟨by show _ ≤ wd.heap.size + 1 + 1; omega, u1'.2⟩
              · exact ⟨by show _ ≤ bm; omega, u0'.2⟩
          · split
            · exact v0'
            · split
              · exact v1'
              · exact v0'
        have B34 : Below w3.heap.size w3 (w5.setCell ⟨bm, 2, none⟩ v') := ((Below.refl _ w3).alloc (Nat.le_refl _) _).trans ⟨c3.os, c3.tape, c3.output, c3.size, fun x hx => c3.block x (by simp only [World.size_alloc]; omega)⟩
        have q7 := deep_close w0 w w2 w3 (w5.setCell ⟨bm, 2, none⟩ v') HK0.out.1 HK0.out.2 n _ b g cap i cur m _ hn HF.out HQ.out hgb hgg hgc hgn hgm hgs hlt' c1 sup B34 rfl
        refine ⟨nsUp (b, m) (fun j' => if j' = 1 then (w3.heap.size, mm) else if j' = 2 then (wd.heap.size + 1 + 1, ptr (wd.heap.size + 1)) else (bm, mm)), rfl, ?_, q7.2.1, q7.2.2⟩
        have e7 := HE.out (nsUp (b, m) (fun j' => if j' = 1 then (w3.heap.size, mm) else if j' = 2 then (wd.heap.size + 1 + 1, ptr (wd.heap.size + 1)) else (bm, mm)))
        rw [hi, ep] at e7
        rw [e7]
        have ej : pos [fb (lowN k p w3.heap.size)] (fbAt rest p) = j := HJ.out.1
        unfold splitN
        rw [if_neg hpe]
        have e8 : (nsUp (b, m) (fun j' => if j' = 1 then (w3.heap.size, mm) else if j' = 2 then (wd.heap.size + 1 + 1, ptr (wd.heap.size + 1)) else (bm, mm)) 2).1 = w3.heap.size := rfl
        rw [e8, ej]
        exact q7.1
end Go.Proofs.Ytkaeglnnahecjaa.T
