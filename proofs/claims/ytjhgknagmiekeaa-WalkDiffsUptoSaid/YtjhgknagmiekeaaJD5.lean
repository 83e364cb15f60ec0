/- joined: TR11 TP2 TP3 TR12 TP4 TP5 TR13 TR14 TP6 TP7 TP8 -/
import Derived.Test.YtjhgknagmiekeaaJD4
import Derived.Deep.CutRange
import Derived.Sort.Walk0
set_option linter.unusedVariables false
set_option linter.unusedSimpArgs false
namespace Go.Proofs.Ytjhgknagmiekeaa.T
open Go.RowKit Go.Lib Go.Proofs Go.Proofs.YtjhgknagmiekeaaW.PrintWords
theorem com_pos (n k : Nd) (rest : ByteArray) (h : kidN n rest = some k) (hr : 0 < rest.size) (hl : 0 < k.label.size) : 0 < comB k.label rest := by
  obtain ⟨hh, hlt, ek⟩ := kidN_some h
  have h1 := of_decide_eq_true hh
  rw [List.getElem?_eq_getElem (by rw [List.length_map]; exact hlt)] at h1
  have h2 : fb k = fbS rest := by rw [← ek]; simpa using h1
  unfold comB
  have e1 := drop_cons k.label 0 hl
  have e2 := drop_cons rest 0 hr
  rw [List.drop_zero] at e1 e2
  rw [e1, e2]
  unfold com
  have e3 : k.label[0] = rest[0] := by
    apply UInt8.toNat_inj.1
    rw [byte0 k.label hl, byte0 rest hr]
    exact h2
  rw [if_pos e3]
  omega
structure MidAt (w w5 : World) (lab : ByteArray) (bl bm g : Nat) (mm : Value) : Prop where
  new : w.heap.size ≤ bm
  blk : w5.heap[bm]? = some (.cells #[.string lab, .pointer none, .slice (some ⟨g, 0, none⟩) 1 1, mm] 117 (0, 0))
  row : w5.ownsRow w.heap.size 58 1 (.slice (some ⟨g, 0, none⟩) 1 1) 1 [ptr bl]
  mark : ∃ c, mm = ptr (c + 1) ∧ w.heap.size ≤ c ∧ w5.heap[c]? = some (.chan 0 #[] false 0 0 false) ∧ w5.heap[c + 1]? = some (watchObj c)
  kept : Below w.heap.size w w5
theorem four_facts (w : World) (o1 o2 o3 o4 : Obj) : ((((w.alloc o1).alloc o2).alloc o3).alloc o4).heap.size = w.heap.size + 4 ∧ ((((w.alloc o1).alloc o2).alloc o3).alloc o4).heap[w.heap.size]? = some o1 ∧ ((((w.alloc o1).alloc o2).alloc o3).alloc o4).heap[w.heap.size + 1]? = some o2 ∧
    ((((w.alloc o1).alloc o2).alloc o3).alloc o4).heap[w.heap.size + 1 + 1]? = some o3 ∧ ((((w.alloc o1).alloc o2).alloc o3).alloc o4).heap[w.heap.size + 1 + 1 + 1]? = some o4 ∧ Below w.heap.size w ((((w.alloc o1).alloc o2).alloc o3).alloc o4) := by
  refine ⟨by simp only [World.size_alloc], ?_, ?_, ?_, ?_, ?_⟩
  · exact alloc_at (alloc_at (alloc_at (heap_alloc_new w _)))
  · refine alloc_at (alloc_at ?_)
    have := heap_alloc_new (w.alloc o1) o2
    rw [World.size_alloc] at this
    exact this
  · refine alloc_at ?_
    have := heap_alloc_new ((w.alloc o1).alloc o2) o3
    rw [World.size_alloc, World.size_alloc] at this
    exact this
  · have := heap_alloc_new (((w.alloc o1).alloc o2).alloc o3) o4
    rw [World.size_alloc, World.size_alloc, World.size_alloc] at this
    exact this
  · exact ((((Below.refl _ w).alloc (Nat.le_refl _) _).alloc (by simp only [World.size_alloc]; omega) _).alloc (by simp only [World.size_alloc]; omega) _).alloc (by simp only [World.size_alloc]; omega) _
theorem MidAt.heap {w w5 w6 : World} {lab : ByteArray} {bl bm g : Nat} {mm : Value} (h : MidAt w w5 lab bl bm g mm) (e : Qt w5 w6) : MidAt w w6 lab bl bm g mm := by
  obtain ⟨c, h1, h2, h3, h4⟩ := h.mark
  refine ⟨h.new, by rw [e.heap]; exact h.blk, ⟨h.row.1, ?_⟩, ⟨c, h1, h2, by rw [e.heap]; exact h3, by rw [e.heap]; exact h4⟩, h.kept.trans (e.below _)⟩
  rcases h.row.2 with h0 | ⟨g', cap, cur, e1, e2, e3, rest⟩
  · exact .inl h0
  · exact .inr ⟨g', cap, cur, e1, e2, by rw [e.heap]; exact e3, rest⟩
theorem midA (w : World) (lab : ByteArray) (bl : Nat) : MidAt w ((((w.alloc (.cells #[.pointer (some ⟨bl, 0, none⟩)] 58)).alloc (.chan 0 #[] false 0 0 false)).alloc (.cells #[.int .u32 0, .int .i32 0, .int .u32 0, .chan (some (w.heap.size + 1))] 154)).alloc (.cells #[.string lab, .pointer none, .slice (some ⟨w.heap.size, 0, none⟩) 1 1, .pointer (some ⟨w.heap.size + 1 + 1, 0, none⟩)] 117)) lab bl (w.heap.size + 1 + 1 + 1) w.heap.size (.pointer (some ⟨w.heap.size + 1 + 1, 0, none⟩)) := by
  obtain ⟨hs, t1, t2, t3, t4, hb⟩ := four_facts w (.cells #[.pointer (some ⟨bl, 0, none⟩)] 58) (.chan 0 #[] false 0 0 false) (.cells #[.int .u32 0, .int .i32 0, .int .u32 0, .chan (some (w.heap.size + 1))] 154) (.cells #[.string lab, .pointer none, .slice (some ⟨w.heap.size, 0, none⟩) 1 1, .pointer (some ⟨w.heap.size + 1 + 1, 0, none⟩)] 117)
  exact ⟨by omega, t4, owns_of (Nat.le_refl _) t1 (Nat.le_refl _) (by decide) rfl rfl (fun j hj => by have : j = 0 := by omega
                                                                                                      subst this; rfl), ⟨w.heap.size + 1, rfl, by omega, t2, t3⟩, hb⟩
theorem midB (w : World) (lab : ByteArray) (bl : Nat) : MidAt w ((((w.alloc (.chan 0 #[] false 0 0 false)).alloc (.cells #[.int .u32 0, .int .i32 0, .int .u32 0, .chan (some w.heap.size)] 154)).alloc (.cells #[.pointer (some ⟨bl, 0, none⟩)] 58)).alloc (.cells #[.string lab, .pointer none, .slice (some ⟨w.heap.size + 1 + 1, 0, none⟩) 1 1, .pointer (some ⟨w.heap.size + 1, 0, none⟩)] 117)) lab bl (w.heap.size + 1 + 1 + 1) (w.heap.size + 1 + 1) (.pointer (some ⟨w.heap.size + 1, 0, none⟩)) := by
  obtain ⟨hs, t1, t2, t3, t4, hb⟩ := four_facts w (.chan 0 #[] false 0 0 false) (.cells #[.int .u32 0, .int .i32 0, .int .u32 0, .chan (some w.heap.size)] 154) (.cells #[.pointer (some ⟨bl, 0, none⟩)] 58) (.cells #[.string lab, .pointer none, .slice (some ⟨w.heap.size + 1 + 1, 0, none⟩) 1 1, .pointer (some ⟨w.heap.size + 1, 0, none⟩)] 117)
  exact ⟨by omega, t4, owns_of (by omega) t3 (Nat.le_refl _) (by decide) rfl rfl (fun j hj => by have : j = 0 := by omega
                                                                                                 subst this; rfl), ⟨w.heap.size, rfl, Nat.le_refl _, t1, t2⟩, hb⟩
def midSeed (lab : ByteArray) (low : Nd) : Nd := .mk 0 lab none [low] (.pointer none)
theorem MidAt.fresh {w w5 : World} {lab : ByteArray} {low : Nd} {bm g : Nat} {mm : Value} (h : MidAt w w5 lab low.b bm g mm) : FreshAt w w5 (midSeed lab low) bm (.slice (some ⟨g, 0, none⟩) 1 1) mm := by
  refine ⟨h.new, h.blk, h.row, fun e => ?_, h.mark, h.kept⟩
  have hg : g = bm := by simpa [Value.ownBlock] using e
  have h1 := h.blk
  obtain ⟨g', cap, cur, e1, _, e2, _⟩ := owns_some h.row (by decide)
  simp at e1
  rw [← e1.1, hg, h1] at e2
  cases e2
theorem new_close2 (B0 B : Nat) (w w2 w5 : World) (hB : B ≤ w.heap.size) (n : Nd) (rest : ByteArray) (l : Lf) (b : Nat) (kv m v' : Value) (i : Nat) (hf : FreshAt w w2 n b kv m)
    (hold : ∀ w7, Ag B0 B (w5.setCell ⟨b, 2, none⟩ v') w7 → LfAt w7 n.leaf ∧ NdsAt w7 n.kids ∧ LfAt w7 (some l))
    (ho5 : w5.ownsRow w.heap.size 58 1 v' (n.kids.length + 1) ((ptrs n.kids).take i ++ ptr (w2.heap.size + 1 + 1) :: (ptrs n.kids).drop i)) (hg5 : (tipW w2 rest l.b).grownBy w5 kv.ownBlock) (hat5 : v'.ownBlock = kv.ownBlock ∨ v'.ownBlock = some (tipW w2 rest l.b).heap.size)
    (hb5 : w5.heap[b]? = some (.cells #[.string n.label, leafPtr n.leaf, kv, m] 117 (0, 0))) :
    Rob B0 B (w5.setCell ⟨b, 2, none⟩ v') (.mk b n.label n.leaf (insAt i (tipN rest l (w2.heap.size + 1 + 1, ptr (w2.heap.size + 1))) n.kids) m) ∧ SupOk w.heap.size (w5.setCell ⟨b, 2, none⟩ v') (ns1 (b, m) (w2.heap.size + 1 + 1, ptr (w2.heap.size + 1))) ∧ Below w.heap.size w (w5.setCell ⟨b, 2, none⟩ v') := by
  obtain ⟨hs, t1, t2, t3, t4, hbel⟩ := tipW_facts w2 rest l.b
  have hbs : b < w2.heap.size := (Array.getElem?_eq_some_iff.1 hf.blk).1
  have hkvlt := hf.row.lt
  have hne : ∀ x, w2.heap.size ≤ x → kv.ownBlock ≠ some x := fun x hx e => by have := (hkvlt x e).2; omega
  have B5 : Below w.heap.size w w5 := (hf.kept.trans ⟨hbel.os, hbel.tape, hbel.output, hbel.size, fun k hk => hbel.block k (by have := hf.kept.size; omega)⟩).trans (below_grown hg5 (by have := hf.kept.size; omega) (fun k hk => (hkvlt k hk).1))
  have B6 := kept_set B5 b hf.new 2 v'
  have hvb : v'.ownBlock ≠ some b := by
    rcases hat5 with e | e
    · rw [e]; exact hf.off
    · rw [e]; intro h; simp at h; omega
  have tip5 := set_at (v := v') (i := 2) (grown_at hg5 t3 (hne _ (by omega))) (show w2.heap.size + 1 + 1 ≠ b by omega)
  have hsz6 : (w5.setCell ⟨b, 2, none⟩ v').heap.size = w5.heap.size := by simp [World.setCell]
  have hsz5 := hg5.size
  obtain ⟨c, hm, hc1, hc2, hc3⟩ := hf.mark
  have c2 := set_at (v := v') (i := 2) (grown_at hg5 ((Kept.of hbel).at hc2) (owns_ne hf.row hc2 (fun cur e => by cases e))) (show c ≠ b from fun e => by rw [e, hf.blk] at hc2; cases hc2)
  have c3 := set_at (v := v') (i := 2) (grown_at hg5 ((Kept.of hbel).at hc3) (owns_ne hf.row hc3 (fun cur e => by unfold watchObj at e; cases e))) (show c + 1 ≠ b from fun e => by rw [e, hf.blk] at hc3; unfold watchObj at hc3; cases hc3)
  have d2 := set_at (v := v') (i := 2) (grown_at hg5 t1 (hne _ (Nat.le_refl _))) (show w2.heap.size ≠ b by omega)
  have d3 := set_at (v := v') (i := 2) (grown_at hg5 t2 (hne _ (by omega))) (show w2.heap.size + 1 ≠ b by omega)
  refine ⟨fun w7 hag => ?_, ⟨fun j => ?_, fun j => ?_⟩, B6⟩
  · obtain ⟨o1, o2, o3⟩ := hold w7 hag
    have hagw : Ag B0 w.heap.size (w5.setCell ⟨b, 2, none⟩ v') w7 := fun x hx hb => hag x hx (by omega)
    refine NdAt.mk (kv := v') ?_ ?_ o1 (o2.insAt i _ ?_) ⟨_, hm⟩
    · exact hag.at (heap_setCell w5 v' hb5) (.inr (by have := hf.new; omega))
    · rw [ptrs_insAt]
      exact row_of_owns (hagw.owns (owns_set ho5 hvb 2 v'))
    · exact NdAt.mk (kv := .slice none 0 0) (hag.at tip5 (.inr (by have := hf.kept.size; omega))) (.inl ⟨rfl, rfl⟩) o3 (by unfold NdsAt; trivial) ⟨_, rfl⟩
  · unfold ns1
    have := hf.new
    have := hf.kept.size
    split
    · rw [hsz6]; exact ⟨by show _ ≤ w2.heap.size + 1 + 1; omega, by show w2.heap.size + 1 + 1 < _; omega⟩
    · rw [hsz6]; exact ⟨hf.new, by show b < _; omega⟩
  · unfold ns1
    have := hf.kept.size
    split
    · exact ⟨w2.heap.size, rfl, by omega, d2, d3⟩
    · exact ⟨c, hm, hc1, c2, c3⟩
theorem leaf_close2 (B0 B : Nat) (w w1 : World) (hB : B ≤ w.heap.size) (n : Nd) (l : Lf) (b : Nat) (kv m : Value) (hf : FreshAt w w1 n b kv m)
    (hold : ∀ w7, Ag B0 B (w1.setCell ⟨b, 1, none⟩ (.pointer (some ⟨l.b, 0, none⟩))) w7 → NdsAt w7 n.kids ∧ LfAt w7 (some l)) :
    Rob B0 B (w1.setCell ⟨b, 1, none⟩ (.pointer (some ⟨l.b, 0, none⟩))) (.mk b n.label (some l) n.kids m) ∧ SupOk w.heap.size (w1.setCell ⟨b, 1, none⟩ (.pointer (some ⟨l.b, 0, none⟩))) (fun _ => (b, m)) ∧ Below w.heap.size w (w1.setCell ⟨b, 1, none⟩ (.pointer (some ⟨l.b, 0, none⟩))) := by
  have KB := kept_set hf.kept b hf.new 1 (.pointer (some ⟨l.b, 0, none⟩))
  obtain ⟨c, hm, hc1, hc2, hc3⟩ := hf.mark
  have n1 : c ≠ b := fun e => by rw [e, hf.blk] at hc2; cases hc2
  have n2 : c + 1 ≠ b := fun e => by rw [e, hf.blk] at hc3; unfold watchObj at hc3; cases hc3
  refine ⟨fun w7 hag => ?_, ⟨fun j => ⟨hf.new, ?_⟩, fun j => ⟨c, hm, hc1, set_at hc2 n1, set_at hc3 n2⟩⟩, KB⟩
  · obtain ⟨o2, o3⟩ := hold w7 hag
    have hagw : Ag B0 w.heap.size (w1.setCell ⟨b, 1, none⟩ (.pointer (some ⟨l.b, 0, none⟩))) w7 := fun x hx hb => hag x hx (by omega)
    refine NdAt.mk (kv := kv) ?_ ?_ o3 o2 ⟨_, hm⟩
    · exact hag.at (heap_setCell w1 (g := b) (o := 1) (.pointer (some ⟨l.b, 0, none⟩)) hf.blk) (.inr (by have := hf.new; omega))
    · exact row_of_owns (hagw.owns (owns_set hf.row hf.off 1 (.pointer (some ⟨l.b, 0, none⟩))))
  · have := (Array.getElem?_eq_some_iff.1 hf.blk).1
    simpa [World.setCell] using this
set_option maxHeartbeats 4000000 in
set_option maxRecDepth 100000 in
theorem ins_split (w0 w : World) (hk0 : Kept w0 w) (hs0 : w0.heap.size ≤ w.heap.size) (n k : Nd) (rest : ByteArray) (l : Lf) (hn0 : NdAt w0 n) (ho : Ok n) (hl : LfAt w0 (some l)) (h0 : 0 < rest.size) (hbig : rest.size < 4000000000000) (hk : kidN n rest = some k) (hp : ¬ (0 < comB k.label rest ∧ comB k.label rest = k.label.size)) (hlab : k.label.size < 4000000000000) :
    Calls Try.prog 98 #[ptr n.b, .string rest, ptr l.b] w fun e w' => ∃ ns, e = .returned (.tuple #[ptr (ns 0).1, leafPtr (findN n rest)]) ∧ Rob w0.heap.size w.heap.size w' (insN n rest l ns) ∧ SupOk w.heap.size w' ns ∧ Below w.heap.size w w' := by
  obtain ⟨hh, hlt, ek⟩ := kidN_some hk
  have hn := NdAt.keep hk0 n hn0
  have q1 := Aside0.mk (fresh w n hn ho.few)
  have q2 := Aside0.mk (fun w1 b kv m hf => kidF w w1 n b kv m hn ho hf (fbS rest) (fbS_lt rest))
  have ex : ((fbS rest : Nat) : Int) = (rest[0].toNat : Int) := by unfold fbS; rw [← byte0 rest h0]
  rw [hh, ex] at q2
  have hfew := ho.few
  have ei : ∀ ns, insN n rest l ns = .mk (ns 0).1 n.label n.leaf (n.kids.set (pos (n.kids.map fb) (fbS rest)) (splitN k (comB k.label rest) rest l ns)) (ns 0).2 := fun ns => by rw [insN, dif_neg (by omega)]; simp only [hk]; rw [dif_neg hp]
  have ef : findN n rest = none := by rw [findN, dif_neg (by omega)]; simp only [hk]; rw [dif_neg hp]
  rw [ef]
  have hcle := comB_le k.label rest
  have hkm : k ∈ n.kids := by rw [← ek]; exact List.getElem_mem _
  have hkl := ho.parts.2.1 k hkm
  have hcp := com_pos n k rest hk h0 hkl
  have hkAt : NdAt w0 k := by rw [← ek]; exact hn0.parts.choose_spec.2.2.2.get _ hlt
  have HK0 := Aside0.mk (And.intro hk0 hs0)
  obtain ⟨i, hi⟩ : ∃ i, pos (n.kids.map fb) (fbS rest) = i := ⟨_, rfl⟩
  obtain ⟨p, ep⟩ : ∃ p, comB k.label rest = p := ⟨_, rfl⟩
  obtain ⟨len, elen⟩ : ∃ len, n.kids.length = len := ⟨_, rfl⟩
  have hne := full_of rest h0
  have q5 := Aside0.mk (fun w1 => common w1 k.label rest (by omega))
  rw [ep] at q5 hcle hcp hp
  have hpl : p < k.label.size := by omega
  have hplI : (p : Int) ≤ (k.label.size : Int) := by omega
  have hpr : p ≤ rest.size := hcle.2
  have hprI : (p : Int) ≤ (rest.size : Int) := by omega
  have hpne : ¬ ((p : Int) = (k.label.size : Int)) := by omega
  rw [hi] at q2
  have hlt' : i < len := by rw [← hi, ← elen]; exact hlt
  have HE := Aside0.mk ei
  have HN := Aside0.mk (And.intro hn0 (And.intro hl (And.intro hkAt (And.intro hi (And.intro ep (And.intro elen (And.intro hcp ho)))))))
  have HK := Aside0.mk (And.intro hlt ek)
  clear hn hn0 hk0 hs0 ho hl ei ef ex hh hfew hk hi ek hkAt ep hp hcle hkm hkl hcp
  unfold ptr
  go_enter Try.func98, Try.ntmps98
  go_wp2_with (go_at_call 124; refine q1.out.mono ?_)
  rintro e w1 ⟨b, kv, m, rfl, hf⟩
  have q3 := Aside0.mk (q2.out w1 b kv m hf)
  have HF := Aside0.mk hf
  obtain ⟨g, cap, cur, rfl, hgb, hgg, hgc, hgn, hgm, hgs⟩ := owns_some hf.row (by omega)
  rw [elen] at hf hgc hgn HF
  have k2 : w1.cell? ⟨b, 2, none⟩ = some (.slice (some ⟨g, 0, none⟩) len cap) := by rw [blk_cell hf.blk]; rfl
  have ki : w1.cell? ⟨g, i, none⟩ = some (.pointer (some ⟨k.b, 0, none⟩)) := by
    rw [blk_cell hgg, hgc i hlt']
    have h1 := HK.out
    have h2 := HN.out.2.2.2.1
    obtain ⟨h3, h4⟩ := h1
    simp only [h2] at h3 h4
    simp [ptrs, List.getElem?_eq_getElem h3, h4, ptr]
  have hk1 := HN.out.2.2.1
  have K1 := HK0.out.1.trans (Kept.of hf.kept) HK0.out.2
  obtain ⟨kvk, hbk0, hrk, hlk, hksk⟩ := hk1.parts
  obtain ⟨mb, emk⟩ := hk1.markP
  have hbk := K1.at hbk0
  obtain ⟨lp, elp⟩ := leafPtr_form k.leaf
  obtain ⟨Ak, ck, rfl, _⟩ := hrk.open
  obtain ⟨lk, elk⟩ : ∃ lk, (ptrs k.kids).length = lk := ⟨_, rfl⟩
  rw [emk, elp, elk] at hbk
  unfold ptr at hbk
  have kl : w1.cell? ⟨k.b, 0, none⟩ = some (.string k.label) := by rw [blk_cell hbk]; rfl
  have kl1 : w1.cell? ⟨k.b, 1, none⟩ = some (.pointer lp) := by rw [blk_cell hbk]; rfl
  have kl2 : w1.cell? ⟨k.b, 2, none⟩ = some (.slice Ak lk ck) := by rw [blk_cell hbk]; rfl
  have kl3 : w1.cell? ⟨k.b, 3, none⟩ = some (.pointer (some ⟨mb, 0, none⟩)) := by rw [blk_cell hbk]; rfl
  have HG := Aside0.mk (And.intro hgb (And.intro hgg (And.intro hgc (And.intro hgn (And.intro hgm hgs)))))
  have HKB := Aside0.mk (And.intro hbk (And.intro hrk (And.intro emk (And.intro elp (And.intro elk (And.intro hlk hksk))))))
  clear hf q1 q2 hgb hgg hgc hgn hgm hgs hk1 hbk hbk0 hrk emk elp elk K1 hlk hksk
  unfold ptr
  unfold ptr at q3
  go_wp2_with (go_at_call 125; refine q3.out.mono ?_)
  rintro e w2 ⟨rfl, rfl⟩
  clear q3
  go_wp2_with (go_at_call 131; refine (q5.out _).mono ?_)
  rintro e w3 ⟨rfl, hQ⟩
  have k2' := hQ.cell k2
  have ki' := hQ.cell ki
  have kl' := hQ.cell kl
  have kl1' := hQ.cell kl1
  have kl2' := hQ.cell kl2
  have kl3' := hQ.cell kl3
  have HQ := Aside0.mk hQ
  clear hQ q5 k2 ki kl kl1 kl2 kl3
  go_wp2_with fail
  go_region_held3 (fun w' => w'.cell? ⟨k.b, 0, none⟩ = some (.string k.label) ∧ w'.cell? ⟨k.b, 1, none⟩ = some (.pointer lp) ∧ w'.cell? ⟨k.b, 2, none⟩ = some (.slice Ak lk ck) ∧ w'.cell? ⟨k.b, 3, none⟩ = some (.pointer (some ⟨mb, 0, none⟩)))
    (first | exact ⟨kl', kl1', kl2', kl3'⟩ | exact ⟨cellA kl', cellA kl1', cellA kl2', cellA kl3'⟩) (fail)
  go_upto_region 16 with fail
  go_cut [15] from 113 to 120 (fun s15 wx => ∃ (bm g5 : Nat) (mm : Value), s15 = .pointer (some ⟨bm, 0, none⟩) ∧ Aside0 (MidAt (w3.alloc (.cells #[.string (k.label.extract p k.label.size), .pointer lp, .slice Ak lk ck, .pointer (some ⟨mb, 0, none⟩)] 117)) wx (rest.extract 0 p) w3.heap.size bm g5 mm))
  case first =>
    go_region_with (go_at_call 99; refine (watchNew _).mono ?_; rintro e w' ⟨rfl, rfl⟩; unfold ptr watchObj)
    all_goals (go_wp2_with fail; go_meet)
    · have hA := midA (w3.alloc (.cells #[.string (k.label.extract p k.label.size), .pointer lp, .slice Ak lk ck, .pointer (some ⟨mb, 0, none⟩)] 117)) (rest.extract 0 p) w3.heap.size
      simp only [World.size_alloc] at hA
      exact ⟨_, _, _, rfl, ⟨hA.heap ⟨rfl, rfl, rfl, rfl⟩⟩⟩
    · have hA := midB (w3.alloc (.cells #[.string (k.label.extract p k.label.size), .pointer lp, .slice Ak lk ck, .pointer (some ⟨mb, 0, none⟩)] 117)) (rest.extract 0 p) w3.heap.size
      simp only [World.size_alloc] at hA
      exact ⟨_, _, _, rfl, ⟨hA.heap ⟨rfl, rfl, rfl, rfl⟩⟩⟩
  case rest =>
    obtain ⟨bm, g5, mm, rfl, HM⟩ := hcut
    obtain ⟨hbk0, hrk, emk, elp, elk, hlk, hksk⟩ := HKB.out
    have hM := HM.out
    have hs3 : w3.heap.size = w2.heap.size := by rw [HQ.out.heap]
    have hsw := HF.out.kept.size
    have hsM := hM.kept.size
    simp only [World.size_alloc] at hsM
    have hbmn := hM.new
    simp only [World.size_alloc] at hbmn
    have hbs : b < w2.heap.size := (Array.getElem?_eq_some_iff.1 HF.out.blk).1
    have hgs2 : g < w2.heap.size := (Array.getElem?_eq_some_iff.1 HG.out.2.1).1
    have K3c : Kept w3 wc := Kept.trans (b := w3.alloc (.cells #[.string (k.label.extract p k.label.size), .pointer lp, .slice Ak lk ck, .pointer (some ⟨mb, 0, none⟩)] 117)) (Kept.of ((Below.refl _ w3).alloc (Nat.le_refl _) _)) (Kept.of hM.kept) (by simp only [World.size_alloc]; omega)
    have up : ∀ {x : Nat} {o : Obj}, w2.heap[x]? = some o → wc.heap[x]? = some o := fun {x o} h => K3c.at (by rw [HQ.out.heap]; exact h)
    have lowAt := (Kept.of hM.kept).at (heap_alloc_new w3 (.cells #[.string (k.label.extract p k.label.size), .pointer lp, .slice Ak lk ck, .pointer (some ⟨mb, 0, none⟩)] 117))
    have B3c : Below w3.heap.size w3 wc := ((Below.refl _ w3).alloc (Nat.le_refl _) _).trans ⟨hM.kept.os, hM.kept.tape, hM.kept.output, hM.kept.size, fun x hx => hM.kept.block x (by simp only [World.size_alloc]; omega)⟩
    have K0c : Kept w0 wc := ((HK0.out.1.trans (Kept.of HF.out.kept) HK0.out.2).trans HQ.out.kept (by have := HK0.out.2; omega)).trans K3c (by have := HK0.out.2; omega)
    have kb2 : wc.cell? ⟨b, 2, none⟩ = some (.slice (some ⟨g, 0, none⟩) len cap) := by rw [blk_cell (up HF.out.blk)]; rfl
    have kgi := K3c.cell ki'
    have fgi : wc.frozen? ⟨g, i, none⟩ = false := blk_frozen (up HG.out.2.1) i
    have kbm1 : wc.cell? ⟨bm, 1, none⟩ = some (.pointer none) := by rw [blk_cell hM.blk]; rfl
    have fbm1 : wc.frozen? ⟨bm, 1, none⟩ = false := blk_frozen hM.blk 1
    have kbm2 : wc.cell? ⟨bm, 2, none⟩ = some (.slice (some ⟨g5, 0, none⟩) 1 1) := by rw [blk_cell hM.blk]; rfl
    have fbm2 : wc.frozen? ⟨bm, 2, none⟩ = false := blk_frozen hM.blk 2
    have nbm : ¬ b = bm := by omega
    have ngm : ¬ g = bm := by omega
    have nbm' : ¬ bm = b := by omega
    have ngm' : ¬ bm = g := by omega
    -- the low node stands
    have hrk' : Row w0 (.slice Ak lk ck) (ptrs k.kids) := by rw [← elk]; exact hrk
    have lowOk : ∀ (w4 w7 : World), Ag w0.heap.size w3.heap.size w4 w7 → Kept w0 w4 → w0.heap.size ≤ w4.heap.size → w4.heap[w3.heap.size]? = some (.cells #[.string (k.label.extract p k.label.size), .pointer lp, .slice Ak lk ck, .pointer (some ⟨mb, 0, none⟩)] 117 (0, 0)) → NdsAt w7 [lowN k p w3.heap.size] ∧ LfAt w7 (some l) := fun w4 w7 hag h1 h2 h3 => by
      have K7 := hag.kept h2 h1
      refine ⟨?_, HN.out.2.1.keep K7⟩
      unfold NdsAt
      refine ⟨NdAt.mk (kv := .slice Ak lk ck) ?_ (hrk'.keep K7) (hlk.keep K7) (NdsAt.keep K7 _ hksk) ⟨mb, emk⟩, by unfold NdsAt; trivial⟩
      rw [elp, emk]
      exact hag.at h3 (.inr (Nat.le_refl _))
    have HUP := Aside0.mk (And.intro hs3 (And.intro hsw (And.intro hsM (And.intro hbmn (And.intro K3c (And.intro lowAt (And.intro B3c (And.intro K0c lowOk))))))))
    have HUP2 := Aside0.mk (fun (x : Nat) (o : Obj) => up (x := x) (o := o))
    have HKB2 := Aside0.mk (And.intro hbk0 (And.intro hrk (And.intro emk (And.intro elp (And.intro elk (And.intro hlk hksk))))))
    clear hbk0 hrk hrk' emk elp elk hlk hksk hM hs3 hsw hsM hbmn hbs hgs2 K3c lowAt B3c K0c lowOk up ki' kl' kl1' kl2' kl3' HKB k2'
    by_cases hpe : p = rest.size
    · subst hpe
      go_wp2_with fail
      go_ret2
      obtain ⟨hs3, hsw, hsM, hbmn, K3c, lowAt, B3c, K0c, lowOk⟩ := HUP.out
      have hw4s : ∀ v, (wc.setCell ⟨bm, 1, none⟩ v).heap.size = wc.heap.size := fun v => by simp [World.setCell]
      have hcl := leaf_close2 w0.heap.size w3.heap.size (w3.alloc (.cells #[.string (k.label.extract rest.size k.label.size), .pointer lp, .slice Ak lk ck, .pointer (some ⟨mb, 0, none⟩)] 117)) wc (by simp only [World.size_alloc]; omega) (midSeed (rest.extract 0 rest.size) (lowN k rest.size w3.heap.size)) l bm _ mm (MidAt.fresh (low := lowN k rest.size w3.heap.size) HM.out)
        (fun w7 hag => lowOk _ w7 hag (fun x hx => (Below.heap_setCell _ _ _ x (by show x ≠ bm; have := HK0.out.2; omega)).trans (K0c x hx)) (by rw [hw4s]; have := HK0.out.2; omega) (set_at lowAt (by omega)))
      obtain ⟨c1, c2, c3⟩ := hcl
      obtain ⟨hgb, hgg, hgc, hgn, hgm, hgs⟩ := HG.out
      obtain ⟨hn, hl, hkAt, hi, ep, elen', hcp, ho⟩ := HN.out
      subst elen
      have sup : SupOk w3.heap.size (wc.setCell ⟨bm, 1, none⟩ (.pointer (some ⟨l.b, 0, none⟩))) (fun j => if j = 1 then (w3.heap.size, mm) else (bm, mm)) := by
        refine ⟨fun j => ?_, fun j => ?_⟩
        · split
          · exact ⟨Nat.le_refl _, by rw [hw4s]; show w3.heap.size < _; omega⟩
          · have h := c2.new 0
            simp only [World.size_alloc] at h
            exact ⟨by show _ ≤ bm; omega, h.2⟩
        · obtain ⟨d, e1, e2, e3, e4⟩ := c2.mark 0
          simp only [World.size_alloc] at e2
          split
          · exact ⟨d, e1, by omega, e3, e4⟩
          · exact ⟨d, e1, by omega, e3, e4⟩
      have B34 : Below w3.heap.size w3 (wc.setCell ⟨bm, 1, none⟩ (.pointer (some ⟨l.b, 0, none⟩))) := kept_set B3c bm (by omega) 1 _
      have q7 := deep_close w0 w w2 w3 (wc.setCell ⟨bm, 1, none⟩ (.pointer (some ⟨l.b, 0, none⟩))) HK0.out.1 HK0.out.2 n _ b g cap i cur m _ hn HF.out HQ.out hgb hgg hgc hgn hgm hgs hlt' c1 sup B34 rfl
      refine ⟨nsUp (b, m) (fun j => if j = 1 then (w3.heap.size, mm) else (bm, mm)), rfl, ?_, q7.2.1, q7.2.2⟩
      have e7 := HE.out (nsUp (b, m) (fun j => if j = 1 then (w3.heap.size, mm) else (bm, mm)))
      rw [hi, ep] at e7
      rw [e7]
      unfold splitN
      rw [if_pos rfl]
      exact q7.1
    · have hpeI : ¬ ((p : Int) = (rest.size : Int)) := by omega
      have hplt : p < rest.size := by omega
      have ex2 : ((fbAt rest p : Nat) : Int) = (rest[p].toNat : Int) := by unfold fbAt; rw [← byteAt rest p hplt]
      have hlowlab : 0 < (lowN k p w3.heap.size).label.size := by
        show 0 < (k.label.extract p k.label.size).size
        simp only [ByteArray.size_extract]
        omega
      have qk := kidOf wc bm (rest.extract 0 p) (.pointer none) (.slice (some ⟨g5, 0, none⟩) 1 1) mm [lowN k p w3.heap.size] (fbAt rest p) HM.out.blk (row_of_owns HM.out.row)
        ((HUP.out.2.2.2.2.2.2.2.2 wc wc (Ag.refl _ _ _) HUP.out.2.2.2.2.2.2.2.1 (by have h := HUP.out; have := HK0.out.2; omega) HUP.out.2.2.2.2.2.1).1) (by simp) (by simpa using hlowlab) (UInt8.toNat_lt _) (by simp)
      rw [ex2] at qk
      obtain ⟨j, ej⟩ : ∃ j, pos ([lowN k p w3.heap.size].map fb) (fbAt rest p) = j := ⟨_, rfl⟩
      obtain ⟨hb2, ehb⟩ : ∃ hb2, hit ([lowN k p w3.heap.size].map fb) (fbAt rest p) = hb2 := ⟨_, rfl⟩
      rw [ej, ehb] at qk
      have hj1 : j ≤ 1 := by rw [← ej]; exact pos_le _ _
      have HJ := Aside0.mk (And.intro ej (And.intro ehb (And.intro hj1 hplt)))
      unfold ptr at qk
      have q8 := Aside0.mk qk
      have q4 := Aside0.mk (putTip wc (w3.alloc (.cells #[.string (k.label.extract p k.label.size), .pointer lp, .slice Ak lk ck, .pointer (some ⟨mb, 0, none⟩)] 117)).heap.size (.slice (some ⟨g5, 0, none⟩) 1 1) 1 [ptr w3.heap.size] j (rest.extract p rest.size) l.b HM.out.row hj1 (by omega) (fun u hu => by rw [List.mem_singleton] at hu; rw [hu]; rfl) HM.out.kept.size)
      clear ej ehb hj1 qk ex2 hlowlab
      go_wp2_with (go_at_call 125; refine q8.out.mono ?_)
      rintro e wd ⟨rfl, hwd⟩
      subst hwd
      clear q8
      go_upto_region 20 with fail
      have a1 : ∀ o, (wd.alloc o).cell? ⟨bm, 2, none⟩ = some (.slice (some ⟨g5, 0, none⟩) 1 1) := fun o => cellA kbm2
      have a2 : ∀ o o', ((wd.alloc o).alloc o').cell? ⟨bm, 2, none⟩ = some (.slice (some ⟨g5, 0, none⟩) 1 1) := fun o o' => cellA (a1 o)
      have a3 : ∀ o o' o2, (((wd.alloc o).alloc o').alloc o2).cell? ⟨bm, 2, none⟩ = some (.slice (some ⟨g5, 0, none⟩) 1 1) := fun o o' o2 => cellA (a2 o o')
      have a4 : ∀ o o' o2 o3, ((((wd.alloc o).alloc o').alloc o2).alloc o3).cell? ⟨bm, 2, none⟩ = some (.slice (some ⟨g5, 0, none⟩) 1 1) := fun o o' o2 o3 => cellA (a3 o o' o2)
      go_cut [] from 137 to 153 (fun wx => ∃ (w5 : World) (v' : Value), Aside0 (w5.ownsRow (w3.alloc (.cells #[.string (k.label.extract p k.label.size), .pointer lp, .slice Ak lk ck, .pointer (some ⟨mb, 0, none⟩)] 117)).heap.size 58 1 v' 2 (([ptr w3.heap.size] : List Value).take j ++ ptr (wd.heap.size + 1 + 1) :: ([ptr w3.heap.size] : List Value).drop j) ∧
        (tipW wd (rest.extract p rest.size) l.b).grownBy w5 (some g5) ∧ (v'.ownBlock = some g5 ∨ v'.ownBlock = some (tipW wd (rest.extract p rest.size) l.b).heap.size) ∧ w5.heap[bm]? = some (.cells #[.string (rest.extract 0 p), .pointer none, .slice (some ⟨g5, 0, none⟩) 1 1, mm] 117 (0, 0))) ∧ wx = w5.setCell ⟨bm, 2, none⟩ v')
      case first =>
        go_region_with (first
          | (go_at_call 99; refine (watchNew _).mono ?_; rintro e wz ⟨rfl, rfl⟩; unfold ptr watchObj)
          | (go_at_call 130; refine q4.out.mono ?_; rintro e w5 ⟨v', rfl, ho5, hg5, hat5⟩; obtain ⟨A5, c5, rfl⟩ := owns_form ho5; have hb5 : w5.heap[bm]? = some (.cells #[.string (rest.extract 0 p), .pointer none, .slice (some ⟨g5, 0, none⟩) 1 1, mm] 117 (0, 0)) := grown_at hg5 ((Kept.of (tipW_facts wd (rest.extract p rest.size) l.b).2.2.2.2.2).at HM.out.blk) (MidAt.fresh (low := lowN k p w3.heap.size) HM.out).off; have f5 : w5.frozen? ⟨bm, 2, none⟩ = false := blk_frozen hb5 2; have k5 : w5.cell? ⟨bm, 2, none⟩ = some (.slice (some ⟨g5, 0, none⟩) 1 1) := (by rw [blk_cell hb5]; rfl); have H5 := Aside0.mk (And.intro ho5 (And.intro hg5 (And.intro hat5 hb5))); clear ho5 hg5 hat5 hb5))
        all_goals (go_wp2_with fail; go_meet)
        all_goals exact ⟨w5, _, H5, rfl⟩
      case rest =>
        obtain ⟨w5, v', H5, rfl⟩ := hcut
        obtain ⟨h1, h2, h3, h4⟩ := H5.out
        have hg5n : w3.heap.size + 1 ≤ g5 := by
          have h := (HM.out.row.lt g5 rfl).1
          simp only [World.size_alloc] at h
          exact h
        have hs3 := HUP.out.1
        have hbs : b < w2.heap.size := (Array.getElem?_eq_some_iff.1 HF.out.blk).1
        have hgs2 : g < w2.heap.size := (Array.getElem?_eq_some_iff.1 HG.out.2.1).1
        have ktip := Kept.of (tipW_facts wd (rest.extract p rest.size) l.b).2.2.2.2.2
        have b5 : w5.heap[b]? = some (.cells #[.string n.label, leafPtr n.leaf, .slice (some ⟨g, 0, none⟩) len cap, m] 117 (0, 0)) := grown_at h2 (ktip.at (HUP2.out _ _ HF.out.blk)) (fun e => by have e' := Option.some.inj e; omega)
        have gg5 : w5.heap[g]? = some (.cells cur 58 (0, 0)) := grown_at h2 (ktip.at (HUP2.out _ _ HG.out.2.1)) (fun e => by have e' := Option.some.inj e; omega)
        have kb5 : w5.cell? ⟨b, 2, none⟩ = some (.slice (some ⟨g, 0, none⟩) len cap) := by rw [blk_cell b5]; rfl
        have fg5 : w5.frozen? ⟨g, i, none⟩ = false := blk_frozen gg5 i
        have kg5 : w5.cell? ⟨g, i, none⟩ = some (.pointer (some ⟨k.b, 0, none⟩)) := by
          rw [blk_cell gg5, ← blk_cell (HUP2.out _ _ HG.out.2.1)]
          exact kgi
        have H5B := Aside0.mk (And.intro b5 (And.intro gg5 (And.intro hg5n (And.intro hs3 (And.intro hbs (And.intro hgs2 ktip))))))
        clear h1 h2 h3 h4 b5 gg5 hg5n hs3 hbs hgs2 ktip a1 a2 a3 a4 kbm1 kbm2 fbm1 fbm2 kb2 kgi fgi
        go_wp2_with fail
        go_ret2
        obtain ⟨h1, h2, h3, h4⟩ := H5.out
        obtain ⟨b5, gg5, hg5n, hs3, hbs, hgs2, ktip⟩ := H5B.out
        obtain ⟨_, hsw, hsM, hbmn, K3c, lowAt, B3c, K0c, lowOk⟩ := HUP.out
        have hw0w := HK0.out.2
        have tsz := (tipW_facts wd (rest.extract p rest.size) l.b).1
        have hsz5 := h2.size
        have hw4s : (w5.setCell ⟨bm, 2, none⟩ v').heap.size = w5.heap.size := by simp [World.setCell]
        have low5 := set_at (v := v') (i := 2) (grown_at h2 (ktip.at lowAt) (fun e => by have e' := Option.some.inj e; omega)) (show w3.heap.size ≠ bm by omega)
        have K05 : Kept w0 (w5.setCell ⟨bm, 2, none⟩ v') := fun x hx => by
          rw [Below.heap_setCell w5 ⟨bm, 2, none⟩ v' x (by show x ≠ bm; omega)]
          rw [h2.block x (by omega) (fun e => by have e' := Option.some.inj e; omega)]
          rw [ktip x (by omega)]
          exact K0c x hx
        have hcl := new_close2 w0.heap.size w3.heap.size (w3.alloc (.cells #[.string (k.label.extract p k.label.size), .pointer lp, .slice Ak lk ck, .pointer (some ⟨mb, 0, none⟩)] 117)) wd w5 (by simp only [World.size_alloc]; omega) (midSeed (rest.extract 0 p) (lowN k p w3.heap.size)) (rest.extract p rest.size) l bm _ mm v' j (MidAt.fresh (low := lowN k p w3.heap.size) HM.out)
          (fun w7 hag => ⟨fun l' e => (by cases e), lowOk _ w7 hag K05 (by rw [hw4s]; omega) low5⟩) h1 h2 h3 h4
        obtain ⟨c1, c2, c3⟩ := hcl
        obtain ⟨hgb, hgg, hgc, hgn, hgm, hgs⟩ := HG.out
        obtain ⟨hn, hl, hkAt, hi, ep, elen', hcp, ho⟩ := HN.out
        subst elen
        have sup : SupOk w3.heap.size (w5.setCell ⟨bm, 2, none⟩ v') (fun j' => if j' = 1 then (w3.heap.size, mm) else if j' = 2 then (wd.heap.size + 1 + 1, ptr (wd.heap.size + 1)) else (bm, mm)) := by
          have u0 := c2.new 0
          have u1 := c2.new 1
          have v0 := c2.mark 0
          have v1 := c2.mark 1
          simp only [World.size_alloc] at u0 u1
          have u0' : w3.heap.size + 1 ≤ bm ∧ bm < (w5.setCell ⟨bm, 2, none⟩ v').heap.size := u0
          have u1' : w3.heap.size + 1 ≤ wd.heap.size + 1 + 1 ∧ wd.heap.size + 1 + 1 < (w5.setCell ⟨bm, 2, none⟩ v').heap.size := u1
          have v0' : NewMark w3.heap.size (w5.setCell ⟨bm, 2, none⟩ v') mm := NewMark.mono (B := (w3.alloc (.cells #[.string (k.label.extract p k.label.size), .pointer lp, .slice Ak lk ck, .pointer (some ⟨mb, 0, none⟩)] 117)).heap.size) v0 (by simp only [World.size_alloc]; omega)
          have v1' : NewMark w3.heap.size (w5.setCell ⟨bm, 2, none⟩ v') (ptr (wd.heap.size + 1)) := NewMark.mono (B := (w3.alloc (.cells #[.string (k.label.extract p k.label.size), .pointer lp, .slice Ak lk ck, .pointer (some ⟨mb, 0, none⟩)] 117)).heap.size) v1 (by simp only [World.size_alloc]; omega)
          refine ⟨fun j' => ?_, fun j' => ?_⟩
          · split
            · exact ⟨Nat.le_refl _, by show w3.heap.size < _; omega⟩
            · split
              · exact ⟨by show _ ≤ wd.heap.size + 1 + 1; omega, u1'.2⟩
              · exact ⟨by show _ ≤ bm; omega, u0'.2⟩
          · split
            · exact v0'
            · split
              · exact v1'
              · exact v0'
        have B34 : Below w3.heap.size w3 (w5.setCell ⟨bm, 2, none⟩ v') := ((Below.refl _ w3).alloc (Nat.le_refl _) _).trans ⟨c3.os, c3.tape, c3.output, c3.size, fun x hx => c3.block x (by simp only [World.size_alloc]; omega)⟩
        have q7 := deep_close w0 w w2 w3 (w5.setCell ⟨bm, 2, none⟩ v') HK0.out.1 HK0.out.2 n _ b g cap i cur m _ hn HF.out HQ.out hgb hgg hgc hgn hgm hgs hlt' c1 sup B34 rfl
        refine ⟨nsUp (b, m) (fun j' => if j' = 1 then (w3.heap.size, mm) else if j' = 2 then (wd.heap.size + 1 + 1, ptr (wd.heap.size + 1)) else (bm, mm)), rfl, ?_, q7.2.1, q7.2.2⟩
        have e7 := HE.out (nsUp (b, m) (fun j' => if j' = 1 then (w3.heap.size, mm) else if j' = 2 then (wd.heap.size + 1 + 1, ptr (wd.heap.size + 1)) else (bm, mm)))
        rw [hi, ep] at e7
        rw [e7]
        have ej : pos [fb (lowN k p w3.heap.size)] (fbAt rest p) = j := HJ.out.1
        unfold splitN
        rw [if_neg hpe]
        have e8 : (nsUp (b, m) (fun j' => if j' = 1 then (w3.heap.size, mm) else if j' = 2 then (wd.heap.size + 1 + 1, ptr (wd.heap.size + 1)) else (bm, mm)) 2).1 = w3.heap.size := rfl
        rw [e8, ej]
        exact q7.1
end Go.Proofs.Ytjhgknagmiekeaa.T
set_option linter.unusedVariables false
set_option linter.unusedSimpArgs false
namespace Go.Proofs.Ytjhgknagmiekeaa.T
theorem findT_nil (n : Nd) : findT n [] = n.leaf := by rw [findT, dif_pos rfl]
def below (r : List UInt8) (k : Nd) : Option Lf := if 0 < k.label.size ∧ L k.label <+: r then findT k (r.drop k.label.size) else none
theorem findT_eq (n : Nd) (r : List UInt8) (h : r ≠ []) : findT n r = (kidT n.kids (hd r)).bind (below r) := by
  rw [findT, dif_neg h]
  cases kidT n.kids (hd r) with
  | none => rfl
  | some k =>
    simp only [Option.bind_some, below]
    by_cases h2 : 0 < k.label.size ∧ L k.label <+: r
    · rw [dif_pos h2, if_pos h2]
    · rw [dif_neg h2, if_neg h2]
theorem findT_same (b b' : Nat) (lab lab' : ByteArray) (leaf : Option Lf) (kids : List Nd) (m m' : Value) (r : List UInt8) : findT (.mk b lab leaf kids m) r = findT (.mk b' lab' leaf kids m') r := by
  by_cases h : r = []
  · subst h; rw [findT_nil, findT_nil]; rfl
  · rw [findT_eq _ _ h, findT_eq _ _ h]; rfl
theorem kidT_insAt (ks : List Nd) (i : Nat) (t : Nd) (x : Nat) (h : ∀ k ∈ ks, fb k ≠ fb t) : kidT (insAt i t ks) x = if fb t = x then some t else kidT ks x := by
  unfold kidT insAt
  rw [List.find?_append]
  by_cases e : fb t = x
  · rw [if_pos e, List.find?_cons_of_pos (by simp [e])]
    have h1 : (ks.take i).find? (fun k => fb k == x) = none := by
      rw [List.find?_eq_none]
      intro k hk
      have := h k (List.mem_of_mem_take hk)
      simp; omega
    rw [h1]; rfl
  · rw [if_neg e, List.find?_cons_of_neg (by simp [e]), ← List.find?_append, List.take_append_drop]
theorem set_split {α : Type} (ks : List α) (i : Nat) (t : α) (hi : i < ks.length) : ks.set i t = ks.take i ++ t :: ks.drop (i + 1) := List.set_eq_take_append_cons_drop ▸ by rw [if_pos hi]
theorem kidT_set (ks : List Nd) (i : Nat) (t : Nd) (x : Nat) (hi : i < ks.length) (hf : fb t = fb ks[i]) (hp : (ks.map fb).Pairwise (· < ·)) : kidT (ks.set i t) x = if fb t = x then some t else kidT ks x := by
  have e2 : ks = ks.take i ++ ks[i] :: ks.drop (i + 1) := by
    rw [← List.drop_eq_getElem_cons hi, List.take_append_drop]
  unfold kidT
  rw [set_split ks i t hi, List.find?_append]
  by_cases e : fb t = x
  · rw [if_pos e, List.find?_cons_of_pos (by simp [e])]
    have h1 : (ks.take i).find? (fun k => fb k == x) = none := by
      rw [List.find?_eq_none]
      intro k hk
      obtain ⟨j, hj, ej⟩ := List.getElem_of_mem hk
      rw [List.length_take] at hj
      have h2 := List.pairwise_iff_getElem.1 hp j i (by rw [List.length_map]; omega) (by rw [List.length_map]; exact hi) (by omega)
      rw [List.getElem_map, List.getElem_map] at h2
      rw [List.getElem_take] at ej
      rw [← ej]
      simp
      omega
    rw [h1]; rfl
  · rw [if_neg e, List.find?_cons_of_neg (by simp [e])]
    conv => rhs; rw [e2]
    rw [List.find?_append, List.find?_cons_of_neg (by simp; omega)]
theorem kidT_some {ks : List Nd} {x : Nat} {k : Nd} (h : kidT ks x = some k) : k ∈ ks ∧ fb k = x := by
  unfold kidT at h
  exact ⟨List.mem_of_find?_eq_some h, by simpa using List.find?_some h⟩
theorem kidT_none {ks : List Nd} {x : Nat} (h : kidT ks x = none) : ∀ k ∈ ks, fb k ≠ x := by
  unfold kidT at h
  rw [List.find?_eq_none] at h
  intro k hk
  have := h k hk
  simpa using this
theorem insN_label (n : Nd) (rest : ByteArray) (l : Lf) (ns : Sup) : (insN n rest l ns).label = n.label := by
  rw [insN]
  split
  · rfl
  · split
    · rfl
    · split <;> rfl
theorem findN_eq : ∀ (N : Nat) (rest : ByteArray), rest.size ≤ N → ∀ n, Ok n → findN n rest = findT n (L rest) := by
  intro N
  induction N with
  | zero =>
    intro rest hN n ho
    have e : L rest = [] := List.length_eq_zero_iff.1 (by rw [L_len]; omega)
    rw [findN, dif_pos (by omega), e, findT_nil]
  | succ N ih =>
    intro rest hN n ho
    by_cases h0 : rest.size = 0
    · have e : L rest = [] := List.length_eq_zero_iff.1 (by rw [L_len]; omega)
      rw [findN, dif_pos h0, e, findT_nil]
    · have hne : L rest ≠ [] := fun e => h0 (by rw [← L_len, e]; rfl)
      rw [findN, dif_neg h0, findT_eq _ _ hne, ← kidN_eq n ho rest]
      cases e : kidN n rest with
      | none => rfl
      | some k =>
        obtain ⟨hh, hlt, ek⟩ := kidN_some e
        have hkm : k ∈ n.kids := by rw [← ek]; exact List.getElem_mem _
        have hpos := ho.parts.2.1 k hkm
        simp only [Option.bind_some, below]
        by_cases hp : L k.label <+: L rest
        · have hc := (comB_prefix k.label rest).2 hp
          rw [dif_pos ⟨by omega, hc⟩, if_pos ⟨hpos, hp⟩, ih _ (by simp only [ByteArray.size_extract]; omega) k (ho.parts.2.2.get k hkm), L_tail, hc]
        · rw [dif_neg (fun h => hp ((comB_prefix k.label rest).1 h.2)), if_neg (fun h => hp h.2)]
end Go.Proofs.Ytjhgknagmiekeaa.T
set_option linter.unusedVariables false
set_option linter.unusedSimpArgs false
namespace Go.Proofs.Ytjhgknagmiekeaa.T
theorem fb_hd (n : Nd) : fb n = hd (L n.label) := rfl
theorem hd_prefix {a r : List UInt8} (h : a <+: r) (ha : 0 < a.length) : hd r = hd a := by
  obtain ⟨t, rfl⟩ := h
  cases a with
  | nil => simp at ha
  | cons x xs => rfl
theorem hd_drop (a : List UInt8) (p : Nat) : hd (a.drop p) = (a.getD p 0).toNat := by
  unfold hd
  simp [List.getD_eq_getElem?_getD, List.getElem?_drop]
theorem tip_below (s : ByteArray) (l : Lf) (a : Nat × Value) (hs : 0 < s.size) (q : List UInt8) : below q (tipN s l a) = if q = L s then some l else none := by
  unfold below
  have e1 : (tipN s l a).label = s := rfl
  rw [e1]
  by_cases h : q = L s
  · rw [if_pos h, if_pos ⟨hs, by rw [h]; exact List.prefix_refl _⟩, h, ← L_len, List.drop_length, findT_nil]
    rfl
  · rw [if_neg h]
    split
    · rename_i hp
      have hd0 : q.drop s.size ≠ [] := fun e => by
        have h1 := hp.2.length_le
        have h2 := List.drop_eq_nil_iff.1 e
        rw [L_len] at h1
        exact h (hp.2.eq_of_length (by rw [L_len]; omega)).symm
      rw [findT_eq _ _ hd0]
      rfl
    · rfl
theorem low_below (k : Nd) (p b : Nat) (hp : p < k.label.size) (q r : List UInt8) (hr : r = (L k.label).take p ++ q) : (kidT [lowN k p b] (hd q)).bind (below q) = below r k := by
  have hA : (L k.label).length = k.label.size := L_len _
  have hlow : L (lowN k p b).label = (L k.label).drop p := L_tail _ _
  have hlsz : (lowN k p b).label.size = k.label.size - p := by rw [← L_len, hlow, List.length_drop, hA]
  have hpre : L k.label <+: r ↔ (L k.label).drop p <+: q := by
    rw [hr]
    conv => lhs; lhs; rw [← List.take_append_drop p (L k.label)]
    exact List.prefix_append_right_inj _
  have htl : ((L k.label).take p).length = p := by rw [List.length_take]; omega
  have hkid : kidT [lowN k p b] (hd q) = if fb (lowN k p b) = hd q then some (lowN k p b) else none := by
    unfold kidT
    by_cases e : fb (lowN k p b) = hd q
    · rw [if_pos e, List.find?_cons_of_pos (by simp [e])]
    · rw [if_neg e, List.find?_cons_of_neg (by simp [e])]; rfl
  rw [hkid]
  unfold below
  by_cases h : L k.label <+: r
  · have h2 := hpre.1 h
    have h3 : hd q = fb (lowN k p b) := by
      rw [fb_hd, hlow]
      exact hd_prefix h2 (by rw [List.length_drop]; omega)
    rw [if_pos h3.symm, if_pos ⟨by omega, h⟩]
    simp only [Option.bind_some]
    rw [if_pos ⟨by omega, by rw [hlow]; exact h2⟩, hlsz]
    have e4 : r.drop k.label.size = q.drop (k.label.size - p) := by
      rw [hr, List.drop_append, htl]
      have : ((L k.label).take p).drop k.label.size = [] := List.drop_eq_nil_iff.2 (by omega)
      rw [this, List.nil_append]
    rw [e4]
    cases k with
    | mk kb klab kleaf kkids kmark => exact findT_same _ _ _ _ _ _ _ _ _
  · have h2 : ¬ (L k.label).drop p <+: q := fun e => h (hpre.2 e)
    by_cases e : fb (lowN k p b) = hd q
    · rw [if_pos e]
      simp only [Option.bind_some]
      rw [if_neg (fun e => h2 (by rw [← hlow]; exact e.2)), if_neg (fun e => h e.2)]
    · rw [if_neg e, if_neg (fun e => h e.2)]
      rfl
theorem split_below (k : Nd) (rest : ByteArray) (l : Lf) (ns : Sup) (p : Nat) (ep : comB k.label rest = p) (h0 : 0 < p) (hp : p < k.label.size) (r : List UInt8) :
    below r (splitN k p rest l ns) = if r = L rest then some l else below r k := by
  have hA : (L k.label).length = k.label.size := L_len _
  have hR : (L rest).length = rest.size := L_len _
  have hpr : p ≤ rest.size := by have := comB_le k.label rest; omega
  have hct : (L k.label).take p = (L rest).take p := by rw [← ep]; exact com_take _ _
  have htl : ((L rest).take p).length = p := by rw [List.length_take]; omega
  have hml : ∀ x, x = rest.extract 0 p → L x = (L rest).take p ∧ x.size = p := fun x e => by
    subst e
    exact ⟨L_head _ _, by rw [← L_len, L_head, htl]⟩
  have hlab : L (splitN k p rest l ns).label = (L rest).take p ∧ (splitN k p rest l ns).label.size = p := by
    apply hml
    unfold splitN
    split <;> rfl
  by_cases hpre : (L rest).take p <+: r
  · obtain ⟨q, hq⟩ := hpre
    have e1 : below r (splitN k p rest l ns) = findT (splitN k p rest l ns) q := by
      unfold below
      rw [hlab.1, hlab.2, if_pos ⟨h0, ⟨q, hq⟩⟩]
      congr 1
      rw [← hq, List.drop_append, htl, Nat.sub_self, List.drop_zero]
      have : ((L rest).take p).drop p = [] := List.drop_eq_nil_iff.2 (by omega)
      rw [this, List.nil_append]
    rw [e1]
    have hrq : r = (L k.label).take p ++ q := by rw [hct, hq]
    have hiff : r = L rest ↔ q = (L rest).drop p := by
      rw [← hq]
      conv => lhs; rhs; rw [← List.take_append_drop p (L rest)]
      exact ⟨fun e => List.append_cancel_left e, fun e => by rw [e]⟩
    by_cases hpe : p = rest.size
    · have es : splitN k p rest l ns = .mk (ns 1).1 (rest.extract 0 p) (some l) [lowN k p (ns 2).1] (ns 1).2 := by unfold splitN; rw [if_pos hpe]
      rw [es]
      have hdr : (L rest).drop p = [] := List.drop_eq_nil_iff.2 (by omega)
      by_cases hq0 : q = []
      · rw [if_pos (hiff.2 (by rw [hq0, hdr])), hq0, findT_nil]; rfl
      · rw [if_neg (fun e => hq0 (by rw [hiff.1 e, hdr])), findT_eq _ _ hq0]
        exact low_below k p _ hp q r hrq
    · have es : splitN k p rest l ns = .mk (ns 1).1 (rest.extract 0 p) none (insAt (pos [fb (lowN k p (ns 2).1)] (fbAt rest p)) (tipN (rest.extract p rest.size) l (ns 3)) [lowN k p (ns 2).1]) (ns 1).2 := by unfold splitN; rw [if_neg hpe]
      rw [es]
      have htip : fb (tipN (rest.extract p rest.size) l (ns 3)) = hd ((L rest).drop p) := by rw [fb_hd]; show hd (L (rest.extract p rest.size)) = _; rw [L_tail]
      have hlowfb : fb (lowN k p (ns 2).1) = hd ((L k.label).drop p) := by rw [fb_hd]; show hd (L (k.label.extract p k.label.size)) = _; rw [L_tail]
      have hdiff : hd ((L k.label).drop p) ≠ hd ((L rest).drop p) := by
        rw [hd_drop, hd_drop]
        have h5 := com_stop (L k.label) (L rest) (by show comB k.label rest < _; omega) (by show comB k.label rest < _; omega)
        intro e
        apply h5
        have e2 : com (L k.label) (L rest) = p := ep
        rw [e2]
        exact UInt8.toNat_inj.1 e
      by_cases hq0 : q = []
      · subst hq0
        rw [findT_nil, if_neg (fun e => by
          have h6 := hiff.1 e
          have h7 := congrArg List.length h6
          rw [List.length_nil, List.length_drop] at h7
          omega)]
        have h8 : ¬ L k.label <+: r := fun e => by
          have h9 := e.length_le
          rw [← hq, List.append_nil, htl] at h9
          omega
        unfold below
        rw [if_neg (fun e => h8 e.2)]
        rfl
      · rw [findT_eq _ _ hq0]
        show (kidT (insAt _ _ _) (hd q)).bind (below q) = _
        rw [kidT_insAt _ _ _ _ (fun k' hk' => by rw [List.mem_singleton] at hk'; rw [hk', hlowfb, htip]; exact hdiff)]
        by_cases htq : fb (tipN (rest.extract p rest.size) l (ns 3)) = hd q
        · rw [if_pos htq]
          simp only [Option.bind_some]
          rw [tip_below _ _ _ (by simp only [ByteArray.size_extract]; omega), L_tail]
          by_cases hqe : q = (L rest).drop p
          · rw [if_pos hqe, if_pos (hiff.2 hqe)]
          · rw [if_neg hqe, if_neg (fun e => hqe (hiff.1 e))]
            have h8 : ¬ L k.label <+: r := fun e => by
              rw [hrq] at e
              have e9 : (L k.label).drop p <+: q := by
                conv at e => lhs; rw [← List.take_append_drop p (L k.label)]
                exact (List.prefix_append_right_inj _).1 e
              have e10 := hd_prefix e9 (by rw [List.length_drop]; omega)
              rw [← htq, htip] at e10
              exact hdiff e10.symm
            unfold below
            rw [if_neg (fun e => h8 e.2)]
        · rw [if_neg htq, if_neg (fun e => htq (by rw [htip, hiff.1 e]))]
          exact low_below k p _ hp q r hrq
  · have h1 : r ≠ L rest := fun e => hpre (by rw [e]; exact List.take_prefix _ _)
    have h2 : ¬ L k.label <+: r := fun e => hpre (by rw [← hct]; exact (List.take_prefix _ _).trans e)
    rw [if_neg h1]
    unfold below
    rw [hlab.1, if_neg (fun e => hpre e.2), if_neg (fun e => h2 e.2)]
end Go.Proofs.Ytjhgknagmiekeaa.T
set_option linter.unusedVariables false
set_option linter.unusedSimpArgs false
namespace Go.Proofs.Ytjhgknagmiekeaa.T
open Go.RowKit Go.Lib Go.Proofs Go.Proofs.YtjhgknagmiekeaaW.PrintWords
mutual
def Sm : Nd → Prop
 | .mk _ label _ kids _ => label.size < 4000000000000 ∧ Sms kids
def Sms : List Nd → Prop
 | [] => True
 | n :: r => Sm n ∧ Sms r
end
theorem Sms.mem : ∀ {ks : List Nd}, Sms ks → ∀ k ∈ ks, Sm k
 | n :: r, h, k, hk => by
  unfold Sms at h
  rcases List.mem_cons.1 hk with e | e
  ·rw [e]; exact h.1
  ·exact Sms.mem h.2 k e
theorem Sm.parts {n : Nd} (h : Sm n) : n.label.size < 4000000000000 ∧ Sms n.kids := by
 cases n with
 | mk b label leaf kids mark => unfold Sm at h; exact h
theorem insertC : ∀ (N : Nat) (rest : ByteArray), rest.size ≤ N → rest.size < 4000000000000 → ∀ (n : Nd) (l : Lf) (w0 w : World), Kept w0 w → w0.heap.size ≤ w.heap.size → NdAt w0 n → Ok n → Sm n → LfAt w0 (some l) →
  Calls Try.prog 98 #[ptr n.b, .string rest, ptr l.b] w fun e w' => ∃ ns, e = .returned (.tuple #[ptr (ns 0).1, leafPtr (findN n rest)]) ∧ Rob w0.heap.size w.heap.size w' (insN n rest l ns) ∧ SupOk w.heap.size w' ns ∧ Below w.heap.size w w' := by
 intro N
 induction N with
 | zero =>
  intro rest hN hb n l w0 w hk hs hn ho hsm hl
  exact ins_empty w0 w hk hs n rest l hn ho hl (by omega)
 | succ N ih =>
  intro rest hN hb n l w0 w hk hs hn ho hsm hl
  by_cases h0 : rest.size = 0
  ·exact ins_empty w0 w hk hs n rest l hn ho hl h0
  ·cases e : kidN n rest with
   | none => exact ins_new w0 w hk hs n rest l hn ho hl (by omega) e
   | some k =>
    obtain ⟨hh, hlt, ek⟩ := kidN_some e
    have hkm : k ∈ n.kids := by rw [← ek]; exact List.getElem_mem _
    have hks := hsm.parts.2.mem k hkm
    by_cases hp : 0 < comB k.label rest ∧ comB k.label rest = k.label.size
    ·refine ins_deep w0 w hk hs n k rest l hn ho hl (by omega) hb e hp (by have := hks.parts.1; omega) ?_
     intro w1 hk1 hs1
     have hsz : (rest.extract (comB k.label rest) rest.size).size = rest.size - comB k.label rest := by
      simp only [ByteArray.size_extract]; omega
     refine ih _ (by omega) (by omega) k l w0 w1 hk1 hs1 ?_ (ho.parts.2.2.get k hkm) hks hl
     rw [← ek]
     exact hn.parts.choose_spec.2.2.2.get _ hlt
    ·exact ins_split w0 w hk hs n k rest l hn ho hl (by omega) hb e hp hks.parts.1
theorem findN_at (w : World) : ∀ (N : Nat) (rest : ByteArray), rest.size ≤ N → ∀ (n : Nd), NdAt w n → LfAt w (findN n rest) := by
 intro N
 induction N with
 | zero =>
  intro rest hN n hn
  rw [findN, dif_pos (by omega)]
  exact hn.parts.choose_spec.2.2.1
 | succ N ih =>
  intro rest hN n hn
  rw [findN]
  split
  ·exact hn.parts.choose_spec.2.2.1
  ·split
   ·intro l e; cases e
   ·rename_i h0 k hk
    obtain ⟨hh, hlt, ek⟩ := kidN_some hk
    split
    ·rename_i hp
     have hsz : (rest.extract (comB k.label rest) rest.size).size = rest.size - comB k.label rest := by
      simp only [ByteArray.size_extract]; omega
     refine ih _ (by omega) k ?_
     rw [← ek]
     exact hn.parts.choose_spec.2.2.2.get _ hlt
    ·intro l e; cases e
def toldV : Option Lf → Value
 | none => .tuple #[.string ⟨#[]⟩, .int .i64 0, .bool false]
 | some l => .tuple #[.string l.key, l.val, .bool true]
set_option maxHeartbeats 4000000 in
set_option maxRecDepth 100000 in
theorem told (w : World) (o : Option Lf) (h : LfAt w o) : Calls Try.prog 87 #[leafPtr o] w fun e w' => e = .returned (toldV o) ∧ Qt w w' := by
 cases o with
 | none =>
  clear h
  unfold leafPtr
  go_enter Try.func87, Try.ntmps87
  go_wp2_with fail
  go_ret3
  exact ⟨rfl, Qt.refl _⟩
 | some l =>
  have hb := h l rfl
  have c0 : w.cell? ⟨l.b, 0, none⟩ = some (.string l.key) := by rw [blk_cell hb]; rfl
  have c1 : w.cell? ⟨l.b, 1, none⟩ = some l.val := by rw [blk_cell hb]; rfl
  clear h hb
  unfold leafPtr ptr
  go_enter Try.func87, Try.ntmps87
  go_wp2_with fail
  go_region
  go_wp2_with fail
  go_ret3
  exact ⟨rfl, (Qt.refl _).drew⟩
set_option maxHeartbeats 4000000 in
set_option maxRecDepth 100000 in
theorem sclone (w : World) (s : ByteArray) (hs : s.size < 4000000000000) : Calls Try.prog 97 #[.string s] w fun e w' => e = .returned (.string s) ∧ Below w.heap.size w w' := by
 have q1 := Aside0.mk (Try.stringslite_Clone s w (by omega))
 go_enter Try.func97, Try.ntmps97
 go_wp2_with (go_at_call 129; refine q1.out.mono ?_)
 rintro e w' ⟨rfl, hB⟩
 have HB := Aside0.mk hB
 clear hB
 go_wp2_with fail
 go_ret
 exact ⟨rfl, HB.out⟩
structure TrAt (w : World) (b : Nat) (root : Nd) (size : Int) : Prop where
 blk : w.heap[b]? = some (.cells #[ptr root.b, .int .i64 size] 124 (0, 0))
 root : NdAt w root
theorem TrAt.keep {w w' : World} {b : Nat} {root : Nd} {size : Int} (h : TrAt w b root size) (k : Kept w w') : TrAt w' b root size := ⟨k.at h.blk, NdAt.keep k _ h.root⟩
def emptyN (b : Nat) (m : Value) : Nd := .mk b ⟨#[]⟩ none [] m
set_option maxHeartbeats 4000000 in
set_option maxRecDepth 100000 in
theorem treeNew (w : World) : Calls Try.prog 45 #[] w fun e w' => ∃ tb b m, e = .returned (ptr tb) ∧ TrAt w' tb (emptyN b m) 0 ∧ NewMark w.heap.size w' m ∧ w.heap.size ≤ b ∧ w.heap.size ≤ tb ∧ Below w.heap.size w w' := by
 go_enter Try.func45, Try.ntmps45
 go_wp2_with (go_at_call 99; refine (watchNew _).mono ?_)
 rintro e w1 ⟨rfl, rfl⟩
 unfold ptr watchObj
 go_wp2_with fail
 go_ret
 obtain ⟨hs, t1, t2, t3, t4, hb⟩ := four_facts w (.chan 0 #[] false 0 0 false) (.cells #[.int .u32 0, .int .i32 0, .int .u32 0, .chan (some w.heap.size)] 154) (.cells #[.string ⟨#[]⟩, .pointer none, .slice none 0 0, .pointer (some ⟨w.heap.size + 1, 0, none⟩)] 117) (.cells #[.pointer (some ⟨w.heap.size + 1 + 1, 0, none⟩), .int .i64 0] 124)
 refine ⟨w.heap.size + 1 + 1 + 1, w.heap.size + 1 + 1, ptr (w.heap.size + 1), rfl, ⟨t4, ?_⟩, ⟨w.heap.size, rfl, Nat.le_refl _, t1, t2⟩, by omega, by omega, hb⟩
 exact NdAt.mk (kv := .slice none 0 0) t3 (.inl ⟨rfl, rfl⟩) (fun l e => by cases e) (by unfold NdsAt; trivial) ⟨_, rfl⟩
theorem three_facts (w : World) (o1 o2 o3 : Obj) : (((w.alloc o1).alloc o2).alloc o3).heap.size = w.heap.size + 3 ∧ (((w.alloc o1).alloc o2).alloc o3).heap[w.heap.size]? = some o1 ∧ (((w.alloc o1).alloc o2).alloc o3).heap[w.heap.size + 1]? = some o2 ∧
  (((w.alloc o1).alloc o2).alloc o3).heap[w.heap.size + 1 + 1]? = some o3 ∧ Below w.heap.size w (((w.alloc o1).alloc o2).alloc o3) := by
 refine ⟨by simp only [World.size_alloc], ?_, ?_, ?_, ?_⟩
 ·exact alloc_at (alloc_at (heap_alloc_new w _))
 ·refine alloc_at ?_
  have := heap_alloc_new (w.alloc o1) o2
  rw [World.size_alloc] at this
  exact this
 ·have := heap_alloc_new ((w.alloc o1).alloc o2) o3
  rw [World.size_alloc, World.size_alloc] at this
  exact this
 ·exact (((Below.refl _ w).alloc (Nat.le_refl _) _).alloc (by simp only [World.size_alloc]; omega) _).alloc (by simp only [World.size_alloc]; omega) _
def hadOld : Option Lf → Bool × Value
 | none => (false, .int .i64 0)
 | some l => (true, l.val)
def incr (b : Bool) : Int := if b then 0 else 1
abbrev leafW (w : World) (k : ByteArray) (v : Int) : World :=
 ((w.alloc (.chan 0 #[] false 0 0 false)).alloc (.cells #[.int .u32 0, .int .i32 0, .int .u32 0, .chan (some w.heap.size)] 154)).alloc (.cells #[.string k, .int .i64 v, .pointer (some ⟨w.heap.size + 1, 0, none⟩)] 127)
set_option maxHeartbeats 4000000 in
set_option maxRecDepth 100000 in
theorem treeInsert (w : World) (tb : Nat) (root : Nd) (size v : Int) (k : ByteArray) (h : TrAt w tb root size) (ho : Ok root) (hsm : Sm root) (hk : k.size < 4000000000000) (hs0 : 0 ≤ size) (hs1 : size < 4000000000000) :
  Calls Try.prog 43 #[ptr tb, .string k, .int .i64 v] w fun e w' => ∃ (tb' lb : Nat) (m : Value) (ns : Sup) (had : Bool) (old : Value), e = .returned (.tuple #[ptr tb', old, .bool had]) ∧ TrAt w' tb' (insN root k ⟨lb, k, .int .i64 v, m⟩ ns) (size + incr had) ∧
   (had, old) = hadOld (findN root k) ∧ w.heap.size ≤ tb' ∧ w.heap.size ≤ lb ∧ NewMark w.heap.size w' m ∧ SupOk w.heap.size w' ns ∧ Below w.heap.size w w' := by
 have q1 := Aside0.mk (sclone w k hk)
 have c0 : w.cell? ⟨tb, 0, none⟩ = some (.pointer (some ⟨root.b, 0, none⟩)) := by rw [blk_cell h.blk]; rfl
 have c1 : w.cell? ⟨tb, 1, none⟩ = some (.int .i64 size) := by rw [blk_cell h.blk]; rfl
 have HT := Aside0.mk h
 have HO := Aside0.mk (And.intro ho hsm)
 clear h ho hsm
 unfold ptr
 go_enter Try.func43, Try.ntmps43
 go_wp2_with (go_at_call 97; refine q1.out.mono ?_)
 rintro e w1 ⟨rfl, B1⟩
 have d0 := (Kept.of B1).cell c0
 have d1 := (Kept.of B1).cell c1
 have HB1 := Aside0.mk B1
 have h1 := HT.out.keep (Kept.of B1)
 have tf := three_facts w1 (.chan 0 #[] false 0 0 false) (.cells #[.int .u32 0, .int .i32 0, .int .u32 0, .chan (some w1.heap.size)] 154) (.cells #[.string k, .int .i64 v, .pointer (some ⟨w1.heap.size + 1, 0, none⟩)] 127)
 have q7 := Aside0.mk (insertC k.size k (Nat.le_refl _) hk root ⟨w1.heap.size + 1 + 1, k, .int .i64 v, .pointer (some ⟨w1.heap.size + 1, 0, none⟩)⟩ (leafW w1 k v).drew (leafW w1 k v).drew (fun _ _ => rfl) (Nat.le_refl _) (NdAt.keep (show Kept w1 (leafW w1 k v).drew from fun x hx => Kept.of tf.2.2.2.2 x hx) _ h1.root) HO.out.1 HO.out.2 (fun l e => by cases e; exact tf.2.2.2.1))
 have HTF := Aside0.mk tf
 clear B1 h1 tf q1
 unfold ptr at q7
 go_wp2_with fail
 go_region_held3 (fun w' => w'.cell? ⟨tb, 0, none⟩ = some (.pointer (some ⟨root.b, 0, none⟩)))
  (first | exact d0 | exact cellA d0 | exact cellA (cellA d0) | exact cellA (cellA (cellA d0)) | exact f0)
  (first
   | (go_at_call 99; refine (watchNew _).mono ?_; rintro e wz ⟨rfl, rfl⟩; unfold ptr watchObj)
   | (go_at_call 98; refine q7.out.mono ?_; rintro e w4 ⟨ns, rfl, hr, hsu, hb4⟩; have f0 := (Kept.of hb4).cell (cellA (cellA (cellA d0))); have f1 := (Kept.of hb4).cell (cellA (cellA (cellA d1))); have H4 := Aside0.mk (And.intro hr (And.intro hsu hb4)); clear hr hsu hb4))
 have hfat := findN_at w k.size k (Nat.le_refl _) root HT.out.root
 cases hfo : findN root k with
 | none =>
  rw [hfo] at hfat
  have q8 := Aside0.mk (fun W => told W none (fun l e => by cases e))
  unfold leafPtr toldV at q8
  unfold leafPtr
  have HFO := Aside0.mk hfo
  clear hfo hfat
  go_wp2_with (go_at_call 87; refine (q8.out _).mono ?_; rintro e w5 ⟨rfl, Q5⟩; have HQ5 := Aside0.mk Q5; clear Q5)
  go_ret3
  obtain ⟨hr, hsu, hb4⟩ := H4.out
  have hsw1 := HB1.out.size
  have hsl : (leafW w1 k v).heap.size = w1.heap.size + 3 := HTF.out.1
  have hsl2 : (leafW w1 k v).heap.size ≤ w4.heap.size := hb4.size
  have B4 : Below w.heap.size w w4 := (HB1.out.trans ⟨HTF.out.2.2.2.2.os, HTF.out.2.2.2.2.tape, HTF.out.2.2.2.2.output, HTF.out.2.2.2.2.size, fun x hx => HTF.out.2.2.2.2.block x (by omega)⟩).trans ⟨hb4.os, hb4.tape, hb4.output, hb4.size, fun x hx => hb4.block x (by show x < (leafW w1 k v).heap.size; omega)⟩
  have QO := HQ5.out
  have hh5 := QO.heap
  have K45 : Kept w4 w5 := (Kept.of ((Below.refl _ w4).alloc (Nat.le_refl _) _)).trans QO.kept (by simp only [World.size_alloc]; omega)
  refine ⟨w4.heap.size, w1.heap.size + 1 + 1, .pointer (some ⟨w1.heap.size + 1, 0, none⟩), ns, false, .int .i64 0, rfl, ⟨?_, ?_⟩, by rw [HFO.out]; rfl, by omega, by omega, ?_, ⟨fun j => ?_, fun j => ?_⟩, (B4.alloc (by omega) _).trans (QO.below _)⟩
  ·rw [hh5, insN_b]
   exact heap_alloc_new w4 _
  ·exact NdAt.keep K45 _ (hr w4 (Ag.refl _ _ _))
  ·exact NewMark.keep (w := w4) ⟨w1.heap.size, rfl, hsw1, (Kept.of hb4).at HTF.out.2.1, (Kept.of hb4).at HTF.out.2.2.1⟩ K45
  ·have h1 := hsu.new j
   have h2 : (leafW w1 k v).heap.size ≤ (ns j).1 := h1.1
   have h3 : w4.heap.size + 1 = w5.heap.size := by rw [hh5]; simp only [World.size_alloc]
   omega
  ·exact ((hsu.mark j).mono (by show w.heap.size ≤ (leafW w1 k v).heap.size; omega)).keep K45
 | some l' =>
  rw [hfo] at hfat
  have q8 := Aside0.mk (fun W (hW : Kept w W) => told W (some l') (hfat.keep hW))
  unfold leafPtr toldV ptr at q8
  unfold leafPtr ptr
  have HFO := Aside0.mk hfo
  have KW : Aside0 (Kept w w4) := ⟨(Kept.of HB1.out).trans (Kept.trans (b := leafW w1 k v) (Kept.of HTF.out.2.2.2.2) (fun x hx => Kept.of H4.out.2.2 x hx) HTF.out.2.2.2.2.size) HB1.out.size⟩
  clear hfo hfat
  have KW2 : Aside0 (∀ o, Kept w (w4.alloc o)) := ⟨fun o => KW.out.trans (Kept.of ((Below.refl _ w4).alloc (Nat.le_refl _) _)) (by have h1 : (leafW w1 k v).heap.size ≤ w4.heap.size := H4.out.2.2.size; have h2 : (leafW w1 k v).heap.size = w1.heap.size + 3 := HTF.out.1; have h3 := HB1.out.size; omega)⟩
  go_wp2_with (go_at_call 87; refine (q8.out _ (KW2.out _)).mono ?_; rintro e w5 ⟨rfl, Q5⟩; have HQ5 := Aside0.mk Q5; clear Q5)
  go_ret3
  obtain ⟨hr, hsu, hb4⟩ := H4.out
  have hsw1 := HB1.out.size
  have hsl : (leafW w1 k v).heap.size = w1.heap.size + 3 := HTF.out.1
  have hsl2 : (leafW w1 k v).heap.size ≤ w4.heap.size := hb4.size
  have B4 : Below w.heap.size w w4 := (HB1.out.trans ⟨HTF.out.2.2.2.2.os, HTF.out.2.2.2.2.tape, HTF.out.2.2.2.2.output, HTF.out.2.2.2.2.size, fun x hx => HTF.out.2.2.2.2.block x (by omega)⟩).trans ⟨hb4.os, hb4.tape, hb4.output, hb4.size, fun x hx => hb4.block x (by show x < (leafW w1 k v).heap.size; omega)⟩
  have QO := HQ5.out
  have hh5 := QO.heap
  have K45 : Kept w4 w5 := (Kept.of ((Below.refl _ w4).alloc (Nat.le_refl _) _)).trans QO.kept (by simp only [World.size_alloc]; omega)
  refine ⟨w4.heap.size, w1.heap.size + 1 + 1, .pointer (some ⟨w1.heap.size + 1, 0, none⟩), ns, true, l'.val, rfl, ⟨?_, ?_⟩, by rw [HFO.out]; rfl, by omega, by omega, ?_, ⟨fun j => ?_, fun j => ?_⟩, (B4.alloc (by omega) _).trans (QO.below _)⟩
  ·rw [hh5, insN_b]
   have e0 : size + incr true = size := Int.add_zero _
   rw [e0]
   exact heap_alloc_new w4 _
  ·exact NdAt.keep K45 _ (hr w4 (Ag.refl _ _ _))
  ·exact NewMark.keep (w := w4) ⟨w1.heap.size, rfl, hsw1, (Kept.of hb4).at HTF.out.2.1, (Kept.of hb4).at HTF.out.2.2.1⟩ K45
  ·have h1 := hsu.new j
   have h2 : (leafW w1 k v).heap.size ≤ (ns j).1 := h1.1
   have h3 : w4.heap.size + 1 = w5.heap.size := by rw [hh5]; simp only [World.size_alloc]
   omega
  ·exact ((hsu.mark j).mono (by show w.heap.size ≤ (leafW w1 k v).heap.size; omega)).keep K45
end Go.Proofs.Ytjhgknagmiekeaa.T
set_option linter.unusedVariables false
set_option linter.unusedSimpArgs false
namespace Go.Proofs.Ytjhgknagmiekeaa.T
theorem fb_insN (n : Nd) (rest : ByteArray) (l : Lf) (ns : Sup) : fb (insN n rest l ns) = fb n := by rw [fb_hd, insN_label, fb_hd]
theorem splitN_label (k : Nd) (p : Nat) (rest : ByteArray) (l : Lf) (ns : Sup) : (splitN k p rest l ns).label = rest.extract 0 p := by
  unfold splitN
  split <;> rfl
theorem fb_splitN (k : Nd) (p : Nat) (rest : ByteArray) (l : Lf) (ns : Sup) (h0 : 0 < p) (hr : 0 < rest.size) : fb (splitN k p rest l ns) = hd (L rest) := by
  rw [fb_hd, splitN_label, L_head]
  have h1 : 0 < (L rest).length := by rw [L_len]; exact hr
  cases e : L rest with
  | nil => rw [e] at h1; simp at h1
  | cons x xs =>
    cases p with
    | zero => omega
    | succ p => rfl
theorem find_ins : ∀ (N : Nat) (rest : ByteArray), rest.size ≤ N → ∀ n, Ok n → ∀ (l : Lf) (ns : Sup) (r : List UInt8), findT (insN n rest l ns) r = if r = L rest then some l else findT n r := by
  intro N
  induction N with
  | zero =>
    intro rest hN n ho l ns r
    have e0 : L rest = [] := List.length_eq_zero_iff.1 (by rw [L_len]; omega)
    rw [insN, dif_pos (by omega), e0]
    by_cases hr : r = []
    · rw [if_pos hr, hr, findT_nil]; rfl
    · rw [if_neg hr, findT_eq _ _ hr, findT_eq _ _ hr]; rfl
  | succ N ih =>
    intro rest hN n ho l ns r
    by_cases h0 : rest.size = 0
    · have e0 : L rest = [] := List.length_eq_zero_iff.1 (by rw [L_len]; omega)
      rw [insN, dif_pos h0, e0]
      by_cases hr : r = []
      · rw [if_pos hr, hr, findT_nil]; rfl
      · rw [if_neg hr, findT_eq _ _ hr, findT_eq _ _ hr]; rfl
    · have hRne : L rest ≠ [] := fun e => h0 (by rw [← L_len, e]; rfl)
      have hrs : 0 < rest.size := by omega
      have hq := kidN_eq n ho rest
      rw [insN, dif_neg h0]
      cases e : kidN n rest with
      | none =>
        simp only []
        rw [e] at hq
        by_cases hr : r = []
        · rw [if_neg (fun e => hRne (by rw [← e, hr])), hr, findT_nil, findT_nil]; rfl
        · rw [findT_eq _ _ hr, findT_eq _ _ hr]
          show (kidT (insAt _ _ _) (hd r)).bind (below r) = _
          have ht : fb (tipN rest l (ns 1)) = hd (L rest) := rfl
          rw [kidT_insAt _ _ _ _ (fun k hk => by rw [ht]; exact kidT_none hq.symm k hk), ht]
          by_cases hx : hd (L rest) = hd r
          · rw [if_pos hx]
            simp only [Option.bind_some]
            rw [tip_below _ _ _ hrs, ← hx, ← hq]
            rfl
          · rw [if_neg hx, if_neg (fun e => hx (by rw [e]))]
      | some k =>
        simp only []
        rw [e] at hq
        obtain ⟨hh, hlt, ek⟩ := kidN_some e
        have hkm : k ∈ n.kids := by rw [← ek]; exact List.getElem_mem _
        have hpos := ho.parts.2.1 k hkm
        have hfk := (kidT_some hq.symm).2
        have hcp := com_pos n k rest e hrs hpos
        have hcl := comB_le k.label rest
        -- both ways
        have key : ∀ (c : Nd) (i : Nat), i = pos (n.kids.map fb) (fbS rest) → fb c = fb k → (∀ r, r ≠ [] → below r c = if r = L rest then some l else below r k) →
            findT (.mk (ns 0).1 n.label n.leaf (n.kids.set i c) (ns 0).2) r = if r = L rest then some l else findT n r := by
          intro c i ei hfc hb
          subst ei
          by_cases hr : r = []
          · rw [if_neg (fun e => hRne (by rw [← e, hr])), hr, findT_nil, findT_nil]; rfl
          · rw [findT_eq _ _ hr, findT_eq _ _ hr]
            show (kidT (n.kids.set _ c) (hd r)).bind (below r) = _
            rw [kidT_set n.kids _ c (hd r) hlt (by rw [hfc, ek]) ho.parts.1]
            by_cases hx : fb c = hd r
            · rw [if_pos hx]
              simp only [Option.bind_some]
              rw [hb r hr]
              rw [hfc, hfk] at hx
              rw [← hx, ← hq]
              rfl
            · rw [if_neg hx, if_neg (fun e => hx (by rw [hfc, hfk, e]))]
        by_cases hp : 0 < comB k.label rest ∧ comB k.label rest = k.label.size
        · rw [dif_pos hp]
          refine key _ _ rfl (fb_insN _ _ _ _) (fun r hr => ?_)
          have hpre := (comB_prefix k.label rest).1 hp.2
          unfold below
          rw [insN_label]
          by_cases hpr : 0 < k.label.size ∧ L k.label <+: r
          · rw [if_pos hpr, if_pos hpr, ih _ (by simp only [ByteArray.size_extract]; omega) k (ho.parts.2.2.get k hkm), L_tail, hp.2]
            have hiff : r.drop k.label.size = (L rest).drop k.label.size ↔ r = L rest := by
              obtain ⟨a, ha⟩ := hpr.2
              obtain ⟨b, hb⟩ := hpre
              have hl : (L k.label).length = k.label.size := L_len _
              rw [← ha, ← hb, ← hl, List.drop_left, List.drop_left]
              exact ⟨fun e => by rw [e], fun e => List.append_cancel_left e⟩
            by_cases e2 : r = L rest
            · rw [if_pos e2, if_pos (hiff.2 e2)]
            · rw [if_neg e2, if_neg (fun h => e2 (hiff.1 h))]
          · rw [if_neg hpr, if_neg hpr, if_neg (fun e2 => hpr ⟨hpos, by rw [e2]; exact hpre⟩)]
        · rw [dif_neg hp]
          refine key _ _ rfl (by rw [fb_splitN _ _ _ _ _ hcp hrs, hfk]) (fun r hr => ?_)
          exact split_below k rest l ns _ rfl hcp (by omega) r
end Go.Proofs.Ytjhgknagmiekeaa.T
set_option linter.unusedVariables false
set_option linter.unusedSimpArgs false
namespace Go.Proofs.Ytjhgknagmiekeaa.T
theorem Oks.of : ∀ {ks : List Nd}, (∀ k ∈ ks, Ok k) → Oks ks
  | [], _ => by unfold Oks; trivial
  | n :: r, h => by
    unfold Oks
    exact ⟨h n (by simp), Oks.of (fun k hk => h k (by simp [hk]))⟩
theorem Sms.of : ∀ {ks : List Nd}, (∀ k ∈ ks, Sm k) → Sms ks
  | [], _ => by unfold Sms; trivial
  | n :: r, h => by
    unfold Sms
    exact ⟨h n (by simp), Sms.of (fun k hk => h k (by simp [hk]))⟩
theorem Ok.mk' {b : Nat} {label : ByteArray} {leaf : Option Lf} {kids : List Nd} {m : Value} (h1 : (kids.map fb).Pairwise (· < ·)) (h2 : ∀ k ∈ kids, 0 < k.label.size) (h3 : ∀ k ∈ kids, Ok k) : Ok (.mk b label leaf kids m) := by
  unfold Ok
  exact ⟨h1, h2, Oks.of h3⟩
theorem Sm.mk' {b : Nat} {label : ByteArray} {leaf : Option Lf} {kids : List Nd} {m : Value} (h1 : label.size < 4000000000000) (h3 : ∀ k ∈ kids, Sm k) : Sm (.mk b label leaf kids m) := by
  unfold Sm
  exact ⟨h1, Sms.of h3⟩
theorem mem_insAt {α : Type} {i : Nat} {x y : α} {l : List α} (h : y ∈ insAt i x l) : y = x ∨ y ∈ l := by
  rcases List.mem_append.1 h with e | e
  · exact .inr (List.mem_of_mem_take e)
  · rcases List.mem_cons.1 e with e | e
    · exact .inl e
    · exact .inr (List.mem_of_mem_drop e)
theorem rise_insAt : ∀ (fs : List Nat) (x : Nat), fs.Pairwise (· < ·) → x ∉ fs → (insAt (pos fs x) x fs).Pairwise (· < ·)
  | [], x, _, _ => by simp [insAt, pos]
  | y :: r, x, hp, hx => by
    have h2 := List.pairwise_cons.1 hp
    unfold pos
    by_cases h : y < x
    · rw [if_pos h]
      have ih := rise_insAt r x h2.2 (fun e => hx (by simp [e]))
      show (y :: insAt (pos r x) x r).Pairwise (· < ·)
      refine List.pairwise_cons.2 ⟨fun z hz => ?_, ih⟩
      rcases mem_insAt hz with e | e
      · rw [e]; exact h
      · exact h2.1 z e
    · rw [if_neg h]
      show (x :: y :: r).Pairwise (· < ·)
      have hxy : x < y := by
        have : x ≠ y := fun e => hx (by simp [e])
        omega
      refine List.pairwise_cons.2 ⟨fun z hz => ?_, hp⟩
      rcases List.mem_cons.1 hz with e | e
      · rw [e]; exact hxy
      · have := h2.1 z e; omega
theorem map_insAt (ks : List Nd) (i : Nat) (t : Nd) : (insAt i t ks).map fb = insAt i (fb t) (ks.map fb) := by simp [insAt]
theorem ok_insAt (ks : List Nd) (x : Nat) (t : Nd) (ht : fb t = x) (hp : (ks.map fb).Pairwise (· < ·)) (hn : ∀ k ∈ ks, fb k ≠ x) : ((insAt (pos (ks.map fb) x) t ks).map fb).Pairwise (· < ·) := by
  rw [map_insAt, ht]
  refine rise_insAt _ _ hp (fun e => ?_)
  obtain ⟨k, hk, e2⟩ := List.mem_map.1 e
  exact hn k hk e2
theorem ok_tip (s : ByteArray) (l : Lf) (a : Nat × Value) : Ok (tipN s l a) := Ok.mk' (by simp) (by simp) (by simp)
theorem ok_low (k : Nd) (p b : Nat) (h : Ok k) : Ok (lowN k p b) := Ok.mk' h.parts.1 h.parts.2.1 (fun x hx => h.parts.2.2.get x hx)
theorem ok_split (k : Nd) (rest : ByteArray) (l : Lf) (ns : Sup) (p : Nat) (ep : comB k.label rest = p) (hk : Ok k) (hp : p < k.label.size) : Ok (splitN k p rest l ns) := by
  have hpr : p ≤ rest.size := by have := comB_le k.label rest; omega
  have hll : 0 < (lowN k p (ns 2).1).label.size := by
    show 0 < (k.label.extract p k.label.size).size
    simp only [ByteArray.size_extract]
    omega
  unfold splitN
  split
  · exact Ok.mk' (by simp) (by simpa using hll) (by simpa using ok_low k p _ hk)
  · rename_i hpe
    have hx : fbAt rest p = fb (tipN (rest.extract p rest.size) l (ns 3)) := by
      rw [fb_hd]
      show _ = hd (L (rest.extract p rest.size))
      rw [L_tail, hd_drop]
      rfl
    refine Ok.mk' (ok_insAt [lowN k p (ns 2).1] _ _ hx.symm (by simp) (fun k' hk' => ?_)) (fun k' hk' => ?_) (fun k' hk' => ?_)
    · rw [List.mem_singleton] at hk'
      rw [hk', fb_hd]
      show hd (L (k.label.extract p k.label.size)) ≠ _
      rw [L_tail, hd_drop]
      have h5 := com_stop (L k.label) (L rest) (by show comB k.label rest < _; rw [L_len]; omega) (by show comB k.label rest < _; rw [L_len]; omega)
      have e2 : com (L k.label) (L rest) = p := ep
      rw [e2] at h5
      intro e
      exact h5 (UInt8.toNat_inj.1 e)
    · rcases mem_insAt hk' with e | e
      · rw [e]
        show 0 < (rest.extract p rest.size).size
        simp only [ByteArray.size_extract]
        omega
      · rw [List.mem_singleton] at e; rw [e]; exact hll
    · rcases mem_insAt hk' with e | e
      · rw [e]; exact ok_tip _ _ _
      · rw [List.mem_singleton] at e; rw [e]; exact ok_low k p _ hk
theorem map_set_same (ks : List Nd) (i : Nat) (c : Nd) (hi : i < ks.length) (h : fb c = fb ks[i]) : (ks.set i c).map fb = ks.map fb := by
  rw [List.map_set, h]
  apply List.ext_getElem?
  intro j
  rw [List.getElem?_set]
  split
  · rename_i e
    subst e
    rw [List.length_map, if_pos hi, List.getElem?_map, List.getElem?_eq_getElem hi]
    rfl
  · rfl
theorem ok_ins : ∀ (N : Nat) (rest : ByteArray), rest.size ≤ N → ∀ n, Ok n → ∀ (l : Lf) (ns : Sup), Ok (insN n rest l ns) := by
  intro N
  induction N with
  | zero =>
    intro rest hN n ho l ns
    rw [insN, dif_pos (by omega)]
    exact Ok.mk' ho.parts.1 ho.parts.2.1 (fun x hx => ho.parts.2.2.get x hx)
  | succ N ih =>
    intro rest hN n ho l ns
    by_cases h0 : rest.size = 0
    · rw [insN, dif_pos h0]
      exact Ok.mk' ho.parts.1 ho.parts.2.1 (fun x hx => ho.parts.2.2.get x hx)
    · have hrs : 0 < rest.size := by omega
      have hq := kidN_eq n ho rest
      rw [insN, dif_neg h0]
      cases e : kidN n rest with
      | none =>
        simp only []
        rw [e] at hq
        refine Ok.mk' (ok_insAt n.kids (fbS rest) _ rfl ho.parts.1 (fun k hk => kidT_none hq.symm k hk)) (fun k' hk' => ?_) (fun k' hk' => ?_)
        · rcases mem_insAt hk' with e | e
          · rw [e]; exact hrs
          · exact ho.parts.2.1 k' e
        · rcases mem_insAt hk' with e | e
          · rw [e]; exact ok_tip _ _ _
          · exact ho.parts.2.2.get k' e
      | some k =>
        simp only []
        rw [e] at hq
        obtain ⟨hh, hlt, ek⟩ := kidN_some e
        have hkm : k ∈ n.kids := by rw [← ek]; exact List.getElem_mem _
        have hpos := ho.parts.2.1 k hkm
        have hfk := (kidT_some hq.symm).2
        have hcp := com_pos n k rest e hrs hpos
        have hcl := comB_le k.label rest
        have key : ∀ (c : Nd), fb c = fb k → 0 < c.label.size → Ok c → Ok (.mk (ns 0).1 n.label n.leaf (n.kids.set (pos (n.kids.map fb) (fbS rest)) c) (ns 0).2) := fun c hfc hcl hoc => by
          refine Ok.mk' ?_ (fun k' hk' => ?_) (fun k' hk' => ?_)
          · rw [map_set_same _ _ _ hlt (by rw [hfc, ek])]; exact ho.parts.1
          · rcases List.mem_or_eq_of_mem_set hk' with e | e
            · exact ho.parts.2.1 k' e
            · rw [e]; exact hcl
          · rcases List.mem_or_eq_of_mem_set hk' with e | e
            · exact ho.parts.2.2.get k' e
            · rw [e]; exact hoc
        by_cases hp : 0 < comB k.label rest ∧ comB k.label rest = k.label.size
        · rw [dif_pos hp]
          exact key _ (fb_insN _ _ _ _) (by rw [insN_label]; exact hpos) (ih _ (by simp only [ByteArray.size_extract]; omega) k (ho.parts.2.2.get k hkm) _ _)
        · rw [dif_neg hp]
          refine key _ (by rw [fb_splitN _ _ _ _ _ hcp hrs, hfk]) ?_ (ok_split k rest l ns _ rfl (ho.parts.2.2.get k hkm) (by omega))
          rw [splitN_label]
          simp only [ByteArray.size_extract]
          omega
theorem sm_ins : ∀ (N : Nat) (rest : ByteArray), rest.size ≤ N → rest.size < 4000000000000 → ∀ n, Sm n → ∀ (l : Lf) (ns : Sup), Sm (insN n rest l ns) := by
  intro N
  induction N with
  | zero =>
    intro rest hN hb n hs l ns
    rw [insN, dif_pos (by omega)]
    exact Sm.mk' hs.parts.1 (fun x hx => hs.parts.2.mem x hx)
  | succ N ih =>
    intro rest hN hb n hs l ns
    rw [insN]
    split
    · exact Sm.mk' hs.parts.1 (fun x hx => hs.parts.2.mem x hx)
    · split
      · refine Sm.mk' hs.parts.1 (fun k' hk' => ?_)
        rcases mem_insAt hk' with e | e
        · rw [e]; exact Sm.mk' hb (by simp)
        · exact hs.parts.2.mem k' e
      · rename_i k e
        obtain ⟨hh, hlt, ek⟩ := kidN_some e
        have hkm : k ∈ n.kids := by rw [← ek]; exact List.getElem_mem _
        have hks := hs.parts.2.mem k hkm
        have hlow : ∀ b p, Sm (lowN k p b) := fun b p => Sm.mk' (by simp only [ByteArray.size_extract]; have := hks.parts.1; omega) (fun x hx => hks.parts.2.mem x hx)
        split
        · refine Sm.mk' hs.parts.1 (fun k' hk' => ?_)
          rcases List.mem_or_eq_of_mem_set hk' with e | e
          · exact hs.parts.2.mem k' e
          · rw [e]
            exact ih _ (by simp only [ByteArray.size_extract]; omega) (by simp only [ByteArray.size_extract]; omega) k hks _ _
        · refine Sm.mk' hs.parts.1 (fun k' hk' => ?_)
          rcases List.mem_or_eq_of_mem_set hk' with e | e
          · exact hs.parts.2.mem k' e
          · rw [e]
            unfold splitN
            split
            · exact Sm.mk' (by simp only [ByteArray.size_extract]; omega) (by simpa using hlow _ _)
            · refine Sm.mk' (by simp only [ByteArray.size_extract]; omega) (fun k2 hk2 => ?_)
              rcases mem_insAt hk2 with e | e
              · rw [e]; exact Sm.mk' (by simp only [ByteArray.size_extract]; omega) (by simp)
              · rw [List.mem_singleton] at e; rw [e]; exact hlow _ _
structure Good (root : Nd) : Prop where
  ok : Ok root
  sm : Sm root
  top : root.label.size = 0
  keys : ∀ r l, findT root r = some l → L l.key = r
theorem good_empty (b : Nat) (m : Value) : Good (emptyN b m) :=
  ⟨Ok.mk' (by simp) (by simp) (by simp), Sm.mk' (by decide) (by simp), rfl, fun r l h => by
    by_cases e : r = []
    · subst e; rw [findT_nil] at h; cases h
    · rw [findT_eq _ _ e] at h; cases h⟩
theorem good_ins {root : Nd} (h : Good root) (k : ByteArray) (hk : k.size < 4000000000000) (l : Lf) (hl : l.key = k) (ns : Sup) : Good (insN root k l ns) :=
  ⟨ok_ins k.size k (Nat.le_refl _) root h.ok l ns, sm_ins k.size k (Nat.le_refl _) hk root h.sm l ns, by rw [insN_label]; exact h.top, fun r l' e => by
    rw [find_ins k.size k (Nat.le_refl _) root h.ok l ns r] at e
    by_cases er : r = L k
    · rw [if_pos er] at e; cases e; rw [hl, er]
    · rw [if_neg er] at e; exact h.keys r l' e⟩
end Go.Proofs.Ytjhgknagmiekeaa.T
set_option linter.unusedVariables false
set_option linter.unusedSimpArgs false
namespace Go.Proofs.Ytjhgknagmiekeaa.T
open Go.RowKit Go.Lib Go.Proofs Go.Proofs.YtjhgknagmiekeaaW.PrintWords
def wayF {σ : Type} (step : σ → Nd → Nat → σ) (k : ByteArray) : Nat → Option Nd → Nat → σ → σ
  | 0, _, _, s => s
  | _ + 1, none, _, s => s
  | f + 1, some n, at_, s => wayF step k f (downN n (k.extract (at_ + n.label.size) k.size)) (at_ + n.label.size) (step s n (at_ + n.label.size))
theorem wayF_none {σ : Type} (step : σ → Nd → Nat → σ) (k : ByteArray) (f a : Nat) (s : σ) : wayF step k f none a s = s := by cases f <;> rfl
theorem downN_some {n m : Nd} {rest : ByteArray} (h : downN n rest = some m) : m ∈ n.kids ∧ m.label.size ≤ rest.size := by
  unfold downN at h
  split at h
  · cases h
  · obtain ⟨k, hk, h2⟩ := Option.bind_eq_some_iff.1 h
    obtain ⟨_, hlt, ek⟩ := kidN_some hk
    split at h2
    · rename_i hp
      cases h2
      refine ⟨by rw [← ek]; exact List.getElem_mem _, ?_⟩
      have h3 := (List.isPrefixOf_iff_prefix.1 hp).length_le
      rw [Array.length_toList, Array.length_toList] at h3
      exact h3
    · cases h2
theorem optPtr_form (o : Option Nd) : ∃ p, optPtr o = .pointer p := by cases o with | none => exact ⟨_, rfl⟩ | some l => exact ⟨_, rfl⟩
structure Stand (wB : World) (k : ByteArray) (n : Nd) (a : Nat) : Prop where
  at_ : NdAt wB n
  ok : Ok n
  sm : Sm n
  le : a + n.label.size ≤ k.size
set_option maxHeartbeats 4000000 in
set_option maxRecDepth 100000 in
theorem way122 {σ : Type} (step : σ → Nd → Nat → σ) (Inv : σ → World → Prop) (kb cb : Nat) (wB w : World) (tb : Nat) (root : Nd) (size : Int) (k : ByteArray) (s0 : σ) (hk : k.size < 4000000000000) (hkw : Kept wB w) (hsz : wB.heap.size ≤ w.heap.size) (ht : TrAt wB tb root size) (ho : Ok root) (hsm : Sm root) (hroot : root.label.size = 0)
    (hinv : Inv s0 w)
    (hcall : ∀ s n a w1, Kept wB w1 → wB.heap.size ≤ w1.heap.size → Inv s w1 → NdAt wB n → a ≤ k.size → Calls Try.prog 122 #[ptr n.b, .int .i64 (a : Nat), ptr kb, ptr cb] w1 fun e w' => e = .returned (.tuple #[]) ∧ Inv (step s n a) w' ∧ Below wB.heap.size w1 w') :
    Calls Try.prog 85 #[ptr tb, .string k, .func (.func 122) #[] #[ptr kb, ptr cb]] w fun e w' => e = .returned (.tuple #[]) ∧ Inv (wayF step k (k.size + 2) (some root) 0 s0) w' ∧ Below wB.heap.size w w' := by
  have c0 : w.cell? ⟨tb, 0, none⟩ = some (.pointer (some ⟨root.b, 0, none⟩)) := by rw [blk_cell (hkw.at ht.blk)]; rfl
  have HS := Aside0.mk (Stand.mk ht.root ho hsm (by rw [hroot]; omega) : Stand wB k root 0)
  have HC := Aside0.mk hcall
  have HW := Aside0.mk (And.intro hkw (And.intro hsz (And.intro hinv hroot)))
  clear hcall ht ho hsm hkw hsz hinv hroot
  unfold ptr
  go_enter Try.func85, Try.ntmps85
  go_wp2_with fail
  go_loopg [6, 7] (k.size + 2) (fun kq v6 v7 w' => ∃ (a : Nat) (on : Option Nd) (s : σ) (p : Option Addr), v6 = .int .i64 (a : Int) ∧ v7 = .pointer p ∧ Aside0 (optPtr on = .pointer p ∧ (∀ n, on = some n → Stand wB k n a ∧ k.size + 1 < kq + a + n.label.size) ∧ a ≤ k.size) ∧
    Aside0 (wayF step k kq on a s = wayF step k (k.size + 2) (some root) 0 s0) ∧ Aside0 (Inv s w' ∧ Kept wB w' ∧ wB.heap.size ≤ w'.heap.size ∧ Below wB.heap.size w w'))
  case atStart =>
    refine ⟨0, some root, s0, some ⟨root.b, 0, none⟩, rfl, rfl, ⟨rfl, fun n e => by cases e; exact ⟨HS.out, by have := HW.out.2.2.2; omega⟩, by omega⟩, ⟨rfl⟩, ⟨HW.out.2.2.1, HW.out.1, HW.out.2.1, Below.refl _ _⟩⟩
  case round =>
    obtain ⟨a, on, s, p, rfl, rfl, HO, HF, HI⟩ := hrel
    cases on with
    | none =>
      have ep : p = none := by have := HO.out.1; simpa [optPtr] using this.symm
      subst ep
      go_wp2_with fail
      refine bodyPost_end (results_none rfl _ _ _) rfl ?_
      refine ⟨rfl, ?_, HI.out.2.2.2⟩
      rw [← HF.out, wayF_none]
      exact HI.out.1
    | some n =>
      have ep : p = some ⟨n.b, 0, none⟩ := by have := HO.out.1; simpa [optPtr, ptr] using this.symm
      subst ep
      obtain ⟨hst, hq⟩ := HO.out.2.1 n rfl
      obtain ⟨kvn, hbn, _, _, _⟩ := hst.at_.parts
      have cl : wr.cell? ⟨n.b, 0, none⟩ = some (.string n.label) := by rw [blk_cell (HI.out.2.1.at hbn)]; rfl
      have hle := hst.le
      obtain ⟨a2, ea2⟩ : ∃ a2, a + n.label.size = a2 := ⟨_, rfl⟩
      have ha2 : a2 ≤ k.size := by omega
      have ha2I : (a2 : Int) ≤ (k.size : Int) := by omega
      have ew : wrap64 ((a : Int) + (n.label.size : Int)) = (a2 : Int) := by unfold wrap64; omega
      have ew2 : (a : Int) + (n.label.size : Int) = (a2 : Int) := by omega
      have q1 := Aside0.mk (HC.out s n a2 wr HI.out.2.1 HI.out.2.2.1 HI.out.1 hst.at_ ha2)
      have HST := Aside0.mk (And.intro hst (And.intro hq ea2))
      have HEW := Aside0.mk ew
      clear hst hq hbn hle ea2 ew
      unfold ptr at q1
      go_wp2_with (go_at_call 122; refine q1.out.mono ?_)
      rintro e w2 ⟨rfl, hi2, hb2⟩
      have hs2 := hb2.size
      have hk2 : Kept wB w2 := fun x hx => (hb2.block x hx).trans (HI.out.2.1 x hx)
      obtain ⟨p2, ep2⟩ := optPtr_form (downN n (k.extract a2 k.size))
      have q2 := downC w2 n (NdAt.keep hk2 n HST.out.1.at_) HST.out.1.ok (k.extract a2 k.size)
      rw [ep2] at q2
      have q3 := Aside0.mk q2
      have H2 := Aside0.mk (And.intro hi2 (And.intro hb2 (And.intro hk2 ep2)))
      clear hi2 hb2 hk2 ep2 q2 q1 hs2
      unfold ptr at q3
      go_wp2_with (go_at_call 121; refine q3.out.mono ?_)
      rintro e w3 ⟨rfl, rfl⟩
      clear q3
      go_wp2_with fail
      obtain ⟨hst, hq, ea2⟩ := HST.out
      cases hgk : gk with
      | zero => exfalso; have := hst.le; rw [hgk] at hq; omega
      | succ g1 =>
        go_roundg g1
        case measure => omega
        case rel =>
          obtain ⟨hi2, hb2, hk2, ep2⟩ := H2.out
          have hf := HF.out
          rw [hgk] at hf
          unfold wayF at hf
          rw [ea2] at hf
          refine ⟨a2, downN n (k.extract a2 k.size), step s n a2, p2, rfl, rfl, ⟨ep2, fun m em => ?_, ha2⟩, ⟨hf⟩, ⟨hi2, hk2, by have := HI.out.2.2.1; have := hb2.size; omega, HI.out.2.2.2.trans hb2⟩⟩
          obtain ⟨hm, hml⟩ := downN_some em
          have hse : (k.extract a2 k.size).size = k.size - a2 := by simp only [ByteArray.size_extract]; omega
          have hpos := hst.ok.parts.2.1 m hm
          obtain ⟨ii, hii, eii⟩ := List.getElem_of_mem hm
          refine ⟨⟨?_, hst.ok.parts.2.2.get m hm, hst.sm.parts.2.mem m hm, by omega⟩, by rw [hgk] at hq; omega⟩
          rw [← eii]
          exact hst.at_.parts.choose_spec.2.2.2.get ii hii
end Go.Proofs.Ytjhgknagmiekeaa.T
set_option linter.unusedVariables false
set_option linter.unusedSimpArgs false
namespace Go.Proofs.Ytjhgknagmiekeaa.T
open Go.RowKit Go.Lib Go.Proofs Go.Proofs.YtjhgknagmiekeaaW.PrintWords
def stepF (k : ByteArray) (s : Option Lf) (n : Nd) (a : Nat) : Option Lf := if a = k.size then n.leaf else s
def InvF (wB : World) (k : ByteArray) (kb cb : Nat) (s : Option Lf) (w : World) : Prop := w.heap[kb]? = some (.cells #[.string k] 9 (0, 0)) ∧ w.heap[cb]? = some (.cells #[leafPtr s] 113 (0, 0)) ∧ LfAt wB s
theorem put_one (w : World) {cb : Nat} {t : TypeId} {old v : Value} (h : w.heap[cb]? = some (.cells #[old] t (0, 0))) : (w.setCell ⟨cb, 0, none⟩ v).heap[cb]? = some (.cells #[v] t (0, 0)) := heap_setCell w v h
theorem below_set (wB w : World) (cb : Nat) (hc : wB.heap.size ≤ cb) (v : Value) : Below wB.heap.size w (w.setCell ⟨cb, 0, none⟩ v) := kept_set (Below.refl _ w) cb hc 0 v
set_option maxHeartbeats 4000000 in
set_option maxRecDepth 100000 in
theorem callF (wB : World) (k : ByteArray) (hks : k.size < 4000000000000) (kb cb : Nat) (hcb : wB.heap.size ≤ cb) (s : Option Lf) (n : Nd) (a : Nat) (w1 : World) (hk : Kept wB w1) (hi : InvF wB k kb cb s w1) (hn : NdAt wB n) (ha : a ≤ k.size) :
  Calls Try.prog 122 #[ptr n.b, .int .i64 (a : Nat), ptr kb, ptr cb] w1 fun e w' => e = .returned (.tuple #[]) ∧ InvF wB k kb cb (stepF k s n a) w' ∧ Below wB.heap.size w1 w' := by
 obtain ⟨kv, hb, _, hl, _⟩ := hn.parts
 have c1 : w1.cell? ⟨n.b, 1, none⟩ = some (leafPtr n.leaf) := by rw [blk_cell (hk.at hb)]; rfl
 have ck : w1.cell? ⟨kb, 0, none⟩ = some (.string k) := by rw [blk_cell hi.1]; rfl
 have cc : w1.cell? ⟨cb, 0, none⟩ = some (leafPtr s) := by rw [blk_cell hi.2.1]; rfl
 have fc : w1.frozen? ⟨cb, 0, none⟩ = false := blk_frozen hi.2.1 0
 have HI := Aside0.mk (And.intro hi (And.intro hl hcb))
 clear hi hb hl hk hn
 by_cases e : a = k.size
 ·have es : stepF k s n a = n.leaf := by unfold stepF; rw [if_pos e]
  rw [es]
  subst e
  clear es
  obtain ⟨p, ep⟩ := leafPtr_form n.leaf
  rw [ep] at c1
  have HP := Aside0.mk ep
  clear ep
  unfold ptr
  go_enter Try.func122, Try.ntmps122
  go_wp2_with fail
  refine bodyPost_end (results_none rfl _ _ _) rfl ?_
  have hne : kb ≠ cb := fun e => by have h1 := HI.out.1.1; rw [e, HI.out.1.2.1] at h1; simp at h1
  refine ⟨rfl, ⟨set_at HI.out.1.1 hne, ?_, HI.out.2.1⟩, below_set wB w1 cb HI.out.2.2 _⟩
  rw [HP.out]
  exact put_one w1 HI.out.1.2.1
 ·have es : stepF k s n a = s := by unfold stepF; rw [if_neg e]
  rw [es]
  have eI : ¬ ((a : Int) = (k.size : Int)) := by omega
  clear es e
  unfold ptr
  go_enter Try.func122, Try.ntmps122
  go_wp2_with fail
  refine bodyPost_end (results_none rfl _ _ _) rfl ?_
  exact ⟨rfl, HI.out.1, Below.refl _ _⟩
def seekN (root : Nd) (k : ByteArray) : Option Lf := wayF (stepF k) k (k.size + 2) (some root) 0 none
set_option maxHeartbeats 4000000 in
set_option maxRecDepth 100000 in
theorem treeFind (w : World) (tb : Nat) (root : Nd) (size : Int) (k : ByteArray) (ht : TrAt w tb root size) (ho : Ok root) (hsm : Sm root) (hroot : root.label.size = 0) (hk : k.size < 4000000000000) :
  Calls Try.prog 88 #[ptr tb, .string k] w fun e w' => e = .returned (leafPtr (seekN root k)) ∧ LfAt w (seekN root k) ∧ Below w.heap.size w w' := by
 have hk0 : Kept w ((w.alloc (.cells #[.string k] 9)).alloc (.cells #[.pointer none] 113)) := Kept.of (((Below.refl _ w).alloc (Nat.le_refl _) _).alloc (by simp only [World.size_alloc]; omega) _)
 have e2 : ((w.alloc (.cells #[.string k] 9)).alloc (.cells #[.pointer none] 113)).heap[w.heap.size + 1]? = some (.cells #[leafPtr none] 113 (0, 0)) := by
  have := heap_alloc_new (w.alloc (.cells #[.string k] 9)) (.cells #[.pointer none] 113)
  rw [World.size_alloc] at this
  exact this
 have q1 := Aside0.mk (way122 (stepF k) (InvF w k w.heap.size (w.heap.size + 1)) w.heap.size (w.heap.size + 1) w ((w.alloc (.cells #[.string k] 9)).alloc (.cells #[.pointer none] 113)) tb root size k none hk hk0 (by simp only [World.size_alloc]; omega) ht ho hsm hroot ⟨alloc_at (heap_alloc_new w _), e2, fun l e => by cases e⟩
  (fun s n a w1 h1 h2 h3 h4 h5 => callF w k hk w.heap.size (w.heap.size + 1) (by omega) s n a w1 h1 h3 h4 h5))
 clear ht ho hsm hroot hk0 e2
 unfold ptr at q1 ⊢
 go_enter Try.func88, Try.ntmps88
 go_wp2_with (go_at_call 85; refine q1.out.mono ?_)
 rintro e w2 ⟨rfl, hi, hb⟩
 have hL : seekN root k = wayF (stepF k) k (k.size + 2) (some root) 0 none := rfl
 rw [← hL] at hi
 have cc : w2.cell? ⟨w.heap.size + 1, 0, none⟩ = some (leafPtr (seekN root k)) := by rw [blk_cell hi.2.1]; rfl
 have hb' : Below w.heap.size w w2 := (((Below.refl _ w).alloc (Nat.le_refl _) _).alloc (by simp only [World.size_alloc]; omega) _).trans hb
 have HB := Aside0.mk (And.intro hb' hi.2.2)
 clear hi hb hb' q1 hL
 go_wp2_with fail
 go_ret
 exact ⟨rfl, HB.out.2, HB.out.1⟩
def getV (o : Option Lf) : Value := match o with | none => .tuple #[.int .i64 0, .bool false] | some l => .tuple #[l.val, .bool true]
set_option maxHeartbeats 4000000 in
set_option maxRecDepth 100000 in
theorem treeGet (w : World) (tb : Nat) (root : Nd) (size : Int) (k : ByteArray) (ht : TrAt w tb root size) (ho : Ok root) (hsm : Sm root) (hroot : root.label.size = 0) (hk : k.size < 4000000000000) :
  Calls Try.prog 35 #[ptr tb, .string k] w fun e w' => e = .returned (getV (seekN root k)) ∧ Below w.heap.size w w' := by
 have q1 := Aside0.mk (treeFind w tb root size k ht ho hsm hroot hk)
 clear ht ho hsm hroot
 obtain ⟨tv, etv⟩ : ∃ tv, toldV (seekN root k) = tv := ⟨_, rfl⟩
 have hform : ∃ a b c, tv = .tuple #[a, b, c] ∧ getV (seekN root k) = .tuple #[b, c] := by rw [← etv]; cases seekN root k <;> exact ⟨_, _, _, rfl, rfl⟩
 obtain ⟨a, b, c, rfl, eg⟩ := hform
 rw [eg]
 obtain ⟨p, ep⟩ := leafPtr_form (seekN root k)
 have HE := Aside0.mk (And.intro etv (And.intro eg ep))
 rw [ep] at q1
 clear etv eg ep
 unfold ptr at q1 ⊢
 go_enter Try.func35, Try.ntmps35
 go_wp2_with (go_at_call 88; refine q1.out.mono ?_)
 rintro e w2 ⟨rfl, hl, hb⟩
 have q2 := told w2 (seekN root k) (hl.keep (Kept.of hb))
 rw [HE.out.1, HE.out.2.2] at q2
 have q3 := Aside0.mk q2
 have HB := Aside0.mk hb
 clear hl hb q2 q1
 go_wp2_with (go_at_call 87; refine q3.out.mono ?_)
 rintro e w3 ⟨rfl, hQ⟩
 have HQ := Aside0.mk hQ
 clear hQ q3
 go_wp2_with fail
 go_ret2
 exact ⟨rfl, HB.out.trans (HQ.out.below _)⟩
end Go.Proofs.Ytjhgknagmiekeaa.T
set_option linter.unusedVariables false
set_option linter.unusedSimpArgs false
namespace Go.Proofs.Ytjhgknagmiekeaa.T
theorem downN_eq (n : Nd) (ho : Ok n) (rest : ByteArray) (h : rest.size ≠ 0) : downN n rest = (kidT n.kids (hd (L rest))).bind fun k => if L k.label <+: L rest then some k else none := by
  unfold downN
  rw [if_neg h, kidN_eq n ho rest]
  congr 1
  funext k
  have : (Lib.hasPrefix rest.data.toList k.label.data.toList = true) ↔ L k.label <+: L rest := List.isPrefixOf_iff_prefix
  by_cases e : L k.label <+: L rest
  · rw [if_pos e, if_pos (this.2 e)]
  · rw [if_neg e, if_neg (fun h => e (this.1 h))]
theorem seek_way (k : ByteArray) : ∀ (f : Nat) (n : Nd) (a : Nat), Ok n → k.size + 1 < f + a + n.label.size → a + n.label.size ≤ k.size →
    wayF (stepF k) k f (some n) a none = findT n ((L k).drop (a + n.label.size)) := by
  intro f
  induction f with
  | zero => intro n a _ h1 h2; omega
  | succ f ih =>
    intro n a ho h1 h2
    obtain ⟨a2, ea⟩ : ∃ a2, a + n.label.size = a2 := ⟨_, rfl⟩
    unfold wayF
    rw [ea]
    have hsz : (k.extract a2 k.size).size = k.size - a2 := by simp only [ByteArray.size_extract]; omega
    by_cases hend : a2 = k.size
    · have e1 : downN n (k.extract a2 k.size) = none := by unfold downN; rw [if_pos (by omega)]
      have e2 : (L k).drop a2 = [] := List.drop_eq_nil_iff.2 (by rw [L_len]; omega)
      rw [e1, wayF_none, e2, findT_nil]
      unfold stepF
      rw [if_pos hend]
    · have e1 := downN_eq n ho (k.extract a2 k.size) (by omega)
      rw [L_tail] at e1
      have hne : (L k).drop a2 ≠ [] := fun e => by have := List.drop_eq_nil_iff.1 e; rw [L_len] at this; omega
      have es : stepF k none n a2 = none := by unfold stepF; rw [if_neg hend]
      rw [es, findT_eq _ _ hne]
      cases ek : kidT n.kids (hd ((L k).drop a2)) with
      | none =>
        rw [ek] at e1
        rw [e1]
        exact wayF_none _ _ _ _ _
      | some m =>
        rw [ek] at e1
        simp only [Option.bind_some] at e1 ⊢
        have hm := (kidT_some ek).1
        have hpos := ho.parts.2.1 m hm
        by_cases hp : L m.label <+: (L k).drop a2
        · rw [if_pos hp] at e1
          have hle := hp.length_le
          rw [L_len, List.length_drop, L_len] at hle
          rw [e1, ih m a2 (ho.parts.2.2.get m hm) (by omega) (by omega)]
          unfold below
          rw [if_pos ⟨hpos, hp⟩, List.drop_drop]
        · rw [if_neg hp] at e1
          rw [e1, wayF_none]
          unfold below
          rw [if_neg (fun e => hp e.2)]
theorem seek_eq {root : Nd} (h : Good root) (k : ByteArray) : seekN root k = findT root (L k) := by
  unfold seekN
  rw [seek_way k _ root 0 h.ok (by omega) (by have := h.top; omega), h.top]
  rfl
theorem find_eq {root : Nd} (h : Good root) (k : ByteArray) : findN root k = findT root (L k) := findN_eq k.size k (Nat.le_refl _) root h.ok
end Go.Proofs.Ytjhgknagmiekeaa.T
set_option linter.unusedVariables false
set_option linter.unusedSimpArgs false
namespace Go.Proofs.Ytjhgknagmiekeaa.T
theorem blt_trans {x y z : List UInt8} (h : x < y) (k : y < z) : x < z := List.lt_trans h k
theorem blt_irrefl (x : List UInt8) : ¬ x < x := List.lt_irrefl x
theorem blt_total (x y : List UInt8) : x < y ∨ x = y ∨ y < x := by
 induction x generalizing y with
 | nil => cases y with
  | nil => exact .inr (.inl rfl)
  | cons b y => exact .inl (List.nil_lt_cons b y)
 | cons a x ih => cases y with
  | nil => exact .inr (.inr (List.nil_lt_cons a x))
  | cons b y =>
   simp only [List.cons_lt_cons_iff]
   by_cases h1 : a < b
   ·exact .inl (.inl h1)
   ·by_cases h2 : a = b
    ·subst h2
     rcases ih y with h | h | h
     ·exact .inl (.inr ⟨rfl, h⟩)
     ·exact .inr (.inl (by rw [h]))
     ·exact .inr (.inr (.inr ⟨rfl, h⟩))
    ·refine .inr (.inr (.inl ?_))
     rw [UInt8.lt_iff_toNat_lt] at h1 ⊢
     have h3 : a.toNat ≠ b.toNat := fun e => h2 (UInt8.toNat_inj.1 e)
     omega
theorem blt_pre (p x y : List UInt8) : p ++ x < p ++ y ↔ x < y := by
 induction p with
 | nil => rfl
 | cons a p ih => simp only [List.cons_append, List.cons_lt_cons_iff, ih]; simp
theorem blt_ext (p r : List UInt8) (h : r ≠ []) : p < p ++ r := by
 cases r with
 | nil => exact absurd rfl h
 | cons b r =>
  have := (blt_pre p [] (b :: r)).2 (List.nil_lt_cons b r)
  rwa [List.append_nil] at this
theorem blt_hd {x y : List UInt8} (hx : x ≠ []) (hy : y ≠ []) (h : hd x < hd y) : x < y := by
 cases x with
 | nil => exact absurd rfl hx
 | cons a x => cases y with
  | nil => exact absurd rfl hy
  | cons b y =>
   rw [List.cons_lt_cons_iff]
   refine .inl ?_
   rw [UInt8.lt_iff_toNat_lt]
   exact h
theorem hd_append {x y : List UInt8} (hx : x ≠ []) : hd (x ++ y) = hd x := by
 cases x with
 | nil => exact absurd rfl hx
 | cons a x => rfl
theorem sorted_ext {α : Type} {lt : α → α → Prop} (irr : ∀ a, ¬ lt a a) (tr : ∀ a b c, lt a b → lt b c → lt a c) : ∀ (A B : List α), A.Pairwise lt → B.Pairwise lt → (∀ x, x ∈ A ↔ x ∈ B) → A = B
 | [], [], _, _, _ => rfl
 | [], b :: B, _, _, h => by have := (h b).2 (by simp); simp at this
 | a :: A, [], _, _, h => by have := (h a).1 (by simp); simp at this
 | a :: A, b :: B, hA, hB, h => by
  have hA2 := List.pairwise_cons.1 hA
  have hB2 := List.pairwise_cons.1 hB
  have e : a = b := by
   rcases List.mem_cons.1 ((h a).1 (by simp)) with e | e
   ·exact e
   ·rcases List.mem_cons.1 ((h b).2 (by simp)) with e2 | e2
    ·exact e2.symm
    ·exact absurd (tr _ _ _ (hA2.1 b e2) (hB2.1 a e)) (irr a)
  subst e
  rw [sorted_ext irr tr A B hA2.2 hB2.2 (fun x => ⟨fun hx => ?_, fun hx => ?_⟩)]
  ·rcases List.mem_cons.1 ((h x).1 (by simp [hx])) with e | e
   ·subst e; exact absurd (hA2.1 x hx) (irr x)
   ·exact e
  ·rcases List.mem_cons.1 ((h x).2 (by simp [hx])) with e | e
   ·subst e; exact absurd (hB2.1 x hx) (irr x)
   ·exact e
abbrev Ent := List UInt8 × Lf
mutual
def ents (p : List UInt8) : Nd → List Ent
 | .mk _ label leaf kids _ => (leaf.toList.map fun l => (p ++ L label, l)) ++ entss (p ++ L label) kids
def entss (p : List UInt8) : List Nd → List Ent
 | [] => []
 | n :: r => ents p n ++ entss p r
end
theorem ents_eq (p : List UInt8) (n : Nd) : ents p n = (n.leaf.toList.map fun l => (p ++ L n.label, l)) ++ entss (p ++ L n.label) n.kids := by
 cases n; rw [ents]; rfl
theorem mem_entss (p : List UInt8) (x : Ent) : ∀ ks : List Nd, x ∈ entss p ks ↔ ∃ k ∈ ks, x ∈ ents p k
 | [] => by rw [entss]; simp
 | n :: r => by
  rw [entss, List.mem_append, mem_entss p x r]
  constructor
  ·rintro (h | ⟨k, hk, h⟩)
   ·exact ⟨n, by simp, h⟩
   ·exact ⟨k, by simp [hk], h⟩
  ·rintro ⟨k, hk, h⟩
   rcases List.mem_cons.1 hk with e | e
   ·subst e; exact .inl h
   ·exact .inr ⟨k, e, h⟩
theorem kidT_of_mem : ∀ {ks : List Nd} {k : Nd}, (ks.map fb).Pairwise (· < ·) → k ∈ ks → kidT ks (fb k) = some k
 | n :: r, k, hp, hk => by
  have h2 := List.pairwise_cons.1 hp
  unfold kidT
  rcases List.mem_cons.1 hk with e | e
  ·subst e; rw [List.find?_cons_of_pos (by simp)]
  ·have := h2.1 (fb k) (List.mem_map_of_mem e)
   rw [List.find?_cons_of_neg (by simp; omega)]
   exact kidT_of_mem h2.2 e
theorem L_ne {s : ByteArray} (h : 0 < s.size) : L s ≠ [] := fun e => by have := L_len s; rw [e] at this; simp at this; omega
theorem findT_kid {n : Nd} (ho : Ok n) {k : Nd} (hk : k ∈ n.kids) (r : List UInt8) : findT n (L k.label ++ r) = findT k r := by
 have hpos := ho.parts.2.1 k hk
 have hne := L_ne hpos
 rw [findT_eq _ _ (by simp [hne]), hd_append hne]
 have hf : hd (L k.label) = fb k := (fb_hd k).symm
 rw [hf, kidT_of_mem ho.parts.1 hk]
 simp only [Option.bind_some, below]
 rw [if_pos ⟨hpos, List.prefix_append _ _⟩]
 congr 1
 rw [← L_len, List.drop_left]
theorem findT_of {n : Nd} (ho : Ok n) {r : List UInt8} {l : Lf} (h : findT n r = some l) : (r = [] ∧ n.leaf = some l) ∨ ∃ k ∈ n.kids, ∃ t, r = L k.label ++ t ∧ findT k t = some l := by
 by_cases hr : r = []
 ·subst hr; rw [findT_nil] at h; exact .inl ⟨rfl, h⟩
 ·rw [findT_eq _ _ hr] at h
  cases e : kidT n.kids (hd r) with
  | none => rw [e] at h; cases h
  | some k =>
   rw [e] at h
   simp only [Option.bind_some, below] at h
   split at h
   ·rename_i hp
    obtain ⟨t, ht⟩ := hp.2
    refine .inr ⟨k, (kidT_some e).1, t, ht.symm, ?_⟩
    rw [← ht, ← L_len, List.drop_left] at h
    exact h
   ·cases h
mutual
theorem mem_ents (q : List UInt8) (l : Lf) : ∀ (n : Nd) (p : List UInt8), Ok n → ((q, l) ∈ ents p n ↔ ∃ r, q = p ++ L n.label ++ r ∧ findT n r = some l)
 | .mk b label leaf kids mark, p, ho => by
  have hk := mem_kids q l kids (p ++ L label) ho.parts.2.2
  rw [ents_eq, List.mem_append, mem_entss]
  constructor
  ·rintro (h | ⟨k, hkm, h⟩)
   ·obtain ⟨l', hl', e⟩ := List.mem_map.1 h
    cases e
    refine ⟨[], by simp, ?_⟩
    rw [findT_nil]
    exact Option.mem_toList.1 hl'
   ·obtain ⟨r, e, hr⟩ := (hk k hkm).1 h
    refine ⟨L k.label ++ r, by rw [e]; simp [Nd.label], ?_⟩
    rw [findT_kid ho (show k ∈ (Nd.mk b label leaf kids mark).kids from hkm)]
    exact hr
  ·rintro ⟨r, e, hr⟩
   rcases findT_of ho hr with ⟨e1, e2⟩ | ⟨k, hkm, t, e1, e2⟩
   ·subst e1
    refine .inl (List.mem_map.2 ⟨l, Option.mem_toList.2 e2, ?_⟩)
    rw [e, List.append_nil]
   ·exact .inr ⟨k, hkm, (hk k hkm).2 ⟨t, by rw [e, e1]; simp [Nd.label], e2⟩⟩
theorem mem_kids (q : List UInt8) (l : Lf) : ∀ (ks : List Nd) (p : List UInt8), Oks ks → ∀ k ∈ ks, ((q, l) ∈ ents p k ↔ ∃ r, q = p ++ L k.label ++ r ∧ findT k r = some l)
 | [], _, _ => by simp
 | n :: r, p, ho => by
  intro k hk
  unfold Oks at ho
  rcases List.mem_cons.1 hk with e | e
  ·rw [e]; exact mem_ents q l n p ho.1
  ·exact mem_kids q l r p ho.2 k e
end
mutual
theorem ents_rise : ∀ (n : Nd) (p : List UInt8), Ok n → (ents p n).Pairwise (fun a b => a.1 < b.1)
 | .mk b label leaf kids mark, p, ho => by
  rw [ents_eq, List.pairwise_append]
  refine ⟨?_, entss_rise kids (p ++ L label) ho.parts.2.2 ho.parts.1 ho.parts.2.1, ?_⟩
  ·cases leaf <;> simp [Nd.leaf]
  ·intro a ha c hc
   obtain ⟨l', hl', e⟩ := List.mem_map.1 ha
   obtain ⟨k, hkm, hck⟩ := (mem_entss _ _ _).1 hc
   obtain ⟨r, er, _⟩ := (mem_kids c.1 c.2 kids (p ++ L label) ho.parts.2.2 k hkm).1 hck
   rw [← e, er]
   show p ++ L label < _
   rw [List.append_assoc (p ++ L label)]
   exact blt_ext _ _ (by have := L_ne (ho.parts.2.1 k hkm); simp [this])
theorem entss_rise : ∀ (ks : List Nd) (p : List UInt8), Oks ks → (ks.map fb).Pairwise (· < ·) → (∀ k ∈ ks, 0 < k.label.size) → (entss p ks).Pairwise (fun a b => a.1 < b.1)
 | [], _, _, _, _ => by rw [entss]; exact List.Pairwise.nil
 | n :: r, p, ho, hp, hl => by
  unfold Oks at ho
  have hp2 := List.pairwise_cons.1 hp
  rw [entss, List.pairwise_append]
  refine ⟨ents_rise n p ho.1, entss_rise r p ho.2 hp2.2 (fun k hk => hl k (by simp [hk])), ?_⟩
  intro a ha c hc
  obtain ⟨k, hkm, hck⟩ := (mem_entss _ _ _).1 hc
  obtain ⟨s, es, _⟩ := (mem_ents a.1 a.2 n p ho.1).1 ha
  obtain ⟨t, et, _⟩ := (mem_kids c.1 c.2 r p ho.2 k hkm).1 hck
  rw [es, et, List.append_assoc, List.append_assoc, blt_pre]
  have h1 := L_ne (hl n (by simp))
  have h2 := L_ne (hl k (by simp [hkm]))
  refine blt_hd (by simp [h1]) (by simp [h2]) ?_
  rw [hd_append h1, hd_append h2, ← fb_hd, ← fb_hd]
  exact hp2.1 (fb k) (List.mem_map_of_mem hkm)
end
abbrev All (root : Nd) : List Ent := ents [] root
theorem mem_all {root : Nd} (h : Good root) (q : List UInt8) (l : Lf) : (q, l) ∈ All root ↔ findT root q = some l := by
 rw [mem_ents q l root [] h.ok]
 have e : L root.label = [] := List.length_eq_zero_iff.1 (by rw [L_len]; exact h.top)
 rw [e]
 constructor
 ·rintro ⟨r, e, hr⟩; rw [e]; exact hr
 ·intro hr; exact ⟨q, rfl, hr⟩
theorem all_rise {root : Nd} (h : Good root) : (All root).Pairwise (fun a b => a.1 < b.1) := ents_rise root [] h.ok
theorem rise_ext {A B : List Ent} (hA : A.Pairwise (fun a b => a.1 < b.1)) (hB : B.Pairwise (fun a b => a.1 < b.1)) (h : ∀ x, x ∈ A ↔ x ∈ B) : A = B :=
 sorted_ext (lt := fun a b : Ent => a.1 < b.1) (fun a => blt_irrefl _) (fun a b c => blt_trans) A B hA hB h
theorem all_ins {root : Nd} (h : Good root) (k : ByteArray) (l : Lf) (ns : Sup) (hg : Good (insN root k l ns)) :
  All (insN root k l ns) = (All root).filter (fun e => decide (e.1 < L k)) ++ (L k, l) :: (All root).filter (fun e => decide (L k < e.1)) := by
 refine rise_ext (all_rise hg) ?_ (fun x => ?_)
 ·have hr := all_rise h
  rw [List.pairwise_append, List.pairwise_cons]
  refine ⟨hr.filter _, ⟨?_, hr.filter _⟩, ?_⟩
  ·intro a ha; exact of_decide_eq_true (List.mem_filter.1 ha).2
  ·intro a ha c hc
   have h1 : a.1 < L k := of_decide_eq_true (List.mem_filter.1 ha).2
   rcases List.mem_cons.1 hc with e | e
   ·rw [e]; exact h1
   ·have h2 : L k < c.1 := of_decide_eq_true (List.mem_filter.1 e).2
    exact blt_trans h1 h2
 ·obtain ⟨q, l'⟩ := x
  rw [mem_all hg, find_ins k.size k (Nat.le_refl _) root h.ok l ns q, List.mem_append, List.mem_cons, List.mem_filter, List.mem_filter, mem_all h]
  simp only [decide_eq_true_eq]
  by_cases e : q = L k
  ·rw [if_pos e]
   subst e
   constructor
   ·intro e; cases e; exact .inr (.inl rfl)
   ·rintro (⟨_, h⟩ | h | ⟨_, h⟩)
    ·exact absurd h (blt_irrefl _)
    ·cases h; rfl
    ·exact absurd h (blt_irrefl _)
  ·rw [if_neg e]
   constructor
   ·intro h1
    rcases blt_total q (L k) with h2 | h2 | h2
    ·exact .inl ⟨h1, h2⟩
    ·exact absurd h2 e
    ·exact .inr (.inr ⟨h1, h2⟩)
   ·rintro (⟨h, _⟩ | h | ⟨h, _⟩)
    ·exact h
    ·exact absurd (congrArg Prod.fst h) e
    ·exact h
end Go.Proofs.Ytjhgknagmiekeaa.T
set_option linter.unusedVariables false
set_option linter.unusedSimpArgs false
namespace Go.Proofs.Ytjhgknagmiekeaa.T
def joinN (n k : Nd) (b : Nat) : Nd := .mk b (n.label ++ k.label) k.leaf k.kids k.mark
def shapedN (n : Nd) (b : Nat) : Option Nd :=
  if n.leaf.isSome = true ∨ 1 < n.kids.length then some n
  else match n.kids with
    | [] => none
    | k :: _ => some (joinN n k b)
def putKid (ks : List Nd) (i : Nat) : Option Nd → List Nd
  | some s => ks.set i s
  | none => ks.eraseIdx i
def delN (n : Nd) (rest : ByteArray) (ns : Sup) : Option (Nd × Lf) :=
  if h0 : rest.size = 0 then n.leaf.map fun l => (.mk (ns 0).1 n.label none n.kids (ns 0).2, l)
  else match downN n rest with
    | none => none
    | some k => if h : 0 < k.label.size then
        (delN k (rest.extract k.label.size rest.size) (fun j => ns (j + 2))).map fun x =>
          (.mk (ns 0).1 n.label n.leaf (putKid n.kids (pos (n.kids.map fb) (fbS rest)) (shapedN x.1 (ns 1).1)) (ns 0).2, x.2)
      else none
termination_by rest.size
decreasing_by
  simp only [ByteArray.size_extract]
  omega
theorem L_append (a b : ByteArray) : L (a ++ b) = L a ++ L b := by simp [L, ByteArray.data_append]
theorem kidT_erase (ks : List Nd) (i : Nat) (x : Nat) (hi : i < ks.length) (hp : (ks.map fb).Pairwise (· < ·)) : kidT (ks.eraseIdx i) x = if fb ks[i] = x then none else kidT ks x := by
  have e2 : ks = ks.take i ++ ks[i] :: ks.drop (i + 1) := by
    rw [← List.drop_eq_getElem_cons hi, List.take_append_drop]
  have hlo : ∀ k ∈ ks.take i, fb k < fb ks[i] := fun k hk => by
    obtain ⟨j, hj, ej⟩ := List.getElem_of_mem hk
    rw [List.length_take] at hj
    have h2 := List.pairwise_iff_getElem.1 hp j i (by rw [List.length_map]; omega) (by rw [List.length_map]; exact hi) (by omega)
    rw [List.getElem_map, List.getElem_map] at h2
    rw [List.getElem_take] at ej
    rw [← ej]
    exact h2
  have hhi : ∀ k ∈ ks.drop (i + 1), fb ks[i] < fb k := fun k hk => by
    obtain ⟨j, hj, ej⟩ := List.getElem_of_mem hk
    rw [List.length_drop] at hj
    have h2 := List.pairwise_iff_getElem.1 hp i (i + 1 + j) (by rw [List.length_map]; exact hi) (by rw [List.length_map]; omega) (by omega)
    rw [List.getElem_map, List.getElem_map] at h2
    rw [List.getElem_drop] at ej
    rw [← ej]
    exact h2
  unfold kidT
  rw [List.eraseIdx_eq_take_drop_succ, List.find?_append]
  by_cases e : fb ks[i] = x
  · rw [if_pos e]
    have h1 : (ks.take i).find? (fun k => fb k == x) = none := by
      rw [List.find?_eq_none]
      intro k hk
      have := hlo k hk
      simp; omega
    have h2 : (ks.drop (i + 1)).find? (fun k => fb k == x) = none := by
      rw [List.find?_eq_none]
      intro k hk
      have := hhi k hk
      simp; omega
    rw [h1, h2]; rfl
  · rw [if_neg e]
    conv => rhs; rw [e2]
    rw [List.find?_append, List.find?_cons_of_neg (by simp [e])]
theorem prefix_split {a b r : List UInt8} : (a ++ b) <+: r ↔ a <+: r ∧ b <+: r.drop a.length := by
  constructor
  · rintro ⟨t, ht⟩
    rw [← ht, List.append_assoc]
    exact ⟨List.prefix_append _ _, by rw [List.drop_left]; exact List.prefix_append _ _⟩
  · rintro ⟨⟨s, hs⟩, ⟨t, ht⟩⟩
    rw [← hs, List.drop_left] at ht
    exact ⟨t, by rw [List.append_assoc, ht, hs]⟩
theorem findT_only {n k : Nd} (hl : n.leaf = none) (hk : n.kids = [k]) (r : List UInt8) (hpos : 0 < k.label.size) : findT n r = below r k := by
  by_cases hr : r = []
  · subst hr
    rw [findT_nil, hl]
    unfold below
    rw [if_neg]
    rintro ⟨_, h⟩
    exact L_ne hpos (List.prefix_nil.1 h)
  · rw [findT_eq _ _ hr, hk]
    unfold kidT
    by_cases e : fb k = hd r
    · rw [List.find?_cons_of_pos (by simp [e])]; rfl
    · rw [List.find?_cons_of_neg (by simp [e])]
      simp only [List.find?_nil, Option.bind_none]
      unfold below
      rw [if_neg]
      rintro ⟨_, t, ht⟩
      apply e
      rw [fb_hd, ← ht, hd_append (L_ne hpos)]
theorem findT_join (n k : Nd) (b : Nat) (r : List UInt8) : findT (joinN n k b) r = findT k r := by
  by_cases hr : r = []
  · subst hr; rw [findT_nil, findT_nil]; rfl
  · rw [findT_eq _ _ hr, findT_eq _ _ hr]; rfl
theorem shaped_cases (n : Nd) (b : Nat) : (shapedN n b = some n ∧ (n.leaf.isSome = true ∨ 1 < n.kids.length)) ∨ (n.leaf = none ∧ n.kids = [] ∧ shapedN n b = none) ∨ ∃ k, n.leaf = none ∧ n.kids = [k] ∧ shapedN n b = some (joinN n k b) := by
  unfold shapedN
  by_cases h : n.leaf.isSome = true ∨ 1 < n.kids.length
  · rw [if_pos h]; exact .inl ⟨rfl, h⟩
  · rw [if_neg h]
    have h1 : n.leaf = none := by cases e : n.leaf with | none => rfl | some l => exact absurd (.inl (by rw [e]; rfl)) h
    cases e : n.kids with
    | nil => exact .inr (.inl ⟨h1, rfl, rfl⟩)
    | cons k ks =>
      cases ks with
      | nil => exact .inr (.inr ⟨k, h1, rfl, rfl⟩)
      | cons k2 ks => exact absurd (.inr (by rw [e]; simp)) h
theorem shaped_some {n s : Nd} {b : Nat} (ho : Ok n) (hpos : 0 < n.label.size) (h : shapedN n b = some s) : fb s = fb n ∧ 0 < s.label.size ∧ Ok s ∧ ∀ r, below r s = below r n := by
  rcases shaped_cases n b with ⟨e, _⟩ | ⟨_, _, e⟩ | ⟨k, hl, hk, e⟩
  · rw [e] at h; cases h; exact ⟨rfl, hpos, ho, fun _ => rfl⟩
  · rw [e] at h; cases h
  · rw [e] at h; cases h
    have hkm : k ∈ n.kids := by rw [hk]; simp
    have hkp := ho.parts.2.1 k hkm
    have hok := ho.parts.2.2.get k hkm
    have hsz : (n.label ++ k.label).size = n.label.size + k.label.size := by rw [ByteArray.size_append]
    refine ⟨?_, by show 0 < (n.label ++ k.label).size; omega, Ok.mk' hok.parts.1 hok.parts.2.1 (fun x hx => hok.parts.2.2.get x hx), fun r => ?_⟩
    · rw [fb_hd, fb_hd]
      show hd (L (n.label ++ k.label)) = _
      rw [L_append, hd_append (L_ne hpos)]
    · unfold below
      have e1 : (joinN n k b).label = n.label ++ k.label := rfl
      rw [e1, L_append, hsz]
      have e2 : r.drop (n.label.size + k.label.size) = (r.drop n.label.size).drop k.label.size := by rw [List.drop_drop]
      rw [e2]
      by_cases h1 : L n.label <+: r
      · rw [if_pos (show 0 < n.label.size ∧ L n.label <+: r from ⟨hpos, h1⟩), findT_only hl hk _ hkp]
        unfold below
        have h2 : L n.label ++ L k.label <+: r ↔ L k.label <+: r.drop n.label.size := by
          rw [prefix_split, L_len]
          exact ⟨fun h => h.2, fun h => ⟨h1, h⟩⟩
        by_cases h3 : L k.label <+: r.drop n.label.size
        · rw [if_pos ⟨by omega, h2.2 h3⟩, if_pos ⟨hkp, h3⟩, findT_join]
        · rw [if_neg (fun h => h3 (h2.1 h.2)), if_neg (fun h => h3 h.2)]
      · rw [if_neg (fun h => h1 (prefix_split.1 h.2).1), if_neg (fun h => h1 h.2)]
theorem shaped_none {n : Nd} {b : Nat} (h : shapedN n b = none) (r : List UInt8) : findT n r = none := by
  rcases shaped_cases n b with ⟨e, _⟩ | ⟨hl, hk, _⟩ | ⟨k, _, _, e⟩
  · rw [e] at h; cases h
  · by_cases hr : r = []
    · subst hr; rw [findT_nil, hl]
    · rw [findT_eq _ _ hr, hk]; rfl
  · rw [e] at h; cases h
theorem fb_label {a b : Nd} (h : a.label = b.label) : fb a = fb b := by rw [fb_hd, fb_hd, h]
theorem del_find : ∀ (N : Nat) (rest : ByteArray), rest.size ≤ N → ∀ n, Ok n → ∀ ns : Sup,
    (findT n (L rest) = none → delN n rest ns = none) ∧ ∀ l, findT n (L rest) = some l → ∃ m, delN n rest ns = some (m, l) ∧ m.label = n.label ∧ Ok m ∧ ∀ r, findT m r = if r = L rest then none else findT n r := by
  intro N
  induction N with
  | zero =>
    intro rest hN n ho ns
    have e : L rest = [] := List.length_eq_zero_iff.1 (by rw [L_len]; omega)
    rw [delN, dif_pos (by omega), e, findT_nil]
    refine ⟨fun h => by rw [h]; rfl, fun l h => ⟨.mk (ns 0).1 n.label none n.kids (ns 0).2, by rw [h]; rfl, rfl, Ok.mk' ho.parts.1 ho.parts.2.1 (fun x hx => ho.parts.2.2.get x hx), fun r => ?_⟩⟩
    by_cases hr : r = []
    · rw [if_pos hr, hr, findT_nil]; rfl
    · rw [if_neg hr, findT_eq _ _ hr, findT_eq _ _ hr]; rfl
  | succ N ih =>
    intro rest hN n ho ns
    by_cases h0 : rest.size = 0
    · have e : L rest = [] := List.length_eq_zero_iff.1 (by rw [L_len]; omega)
      rw [delN, dif_pos h0, e, findT_nil]
      refine ⟨fun h => by rw [h]; rfl, fun l h => ⟨.mk (ns 0).1 n.label none n.kids (ns 0).2, by rw [h]; rfl, rfl, Ok.mk' ho.parts.1 ho.parts.2.1 (fun x hx => ho.parts.2.2.get x hx), fun r => ?_⟩⟩
      by_cases hr : r = []
      · rw [if_pos hr, hr, findT_nil]; rfl
      · rw [if_neg hr, findT_eq _ _ hr, findT_eq _ _ hr]; rfl
    · have hne : L rest ≠ [] := fun e => h0 (by rw [← L_len, e]; rfl)
      have hq := kidN_eq n ho rest
      have hdn := downN_eq n ho rest h0
      rw [delN, dif_neg h0, findT_eq _ _ hne]
      cases e : kidT n.kids (hd (L rest)) with
      | none =>
        rw [e] at hdn
        have hdn' : downN n rest = none := hdn
        rw [hdn']
        exact ⟨fun _ => rfl, fun l h => by cases h⟩
      | some k =>
        rw [e] at hdn hq
        simp only [Option.bind_some] at hdn ⊢
        obtain ⟨hh, hlt, ek⟩ := kidN_some hq
        have hkm : k ∈ n.kids := (kidT_some e).1
        have hfk := (kidT_some e).2
        have hpos := ho.parts.2.1 k hkm
        by_cases hp : L k.label <+: L rest
        · rw [if_pos hp] at hdn
          rw [hdn]
          unfold below
          rw [if_pos ⟨hpos, hp⟩]
          simp only []
          rw [dif_pos hpos]
          have hI := ih (rest.extract k.label.size rest.size) (by simp only [ByteArray.size_extract]; omega) k (ho.parts.2.2.get k hkm) (fun j => ns (j + 2))
          rw [L_tail] at hI
          refine ⟨fun h => by rw [hI.1 h]; rfl, fun l h => ?_⟩
          obtain ⟨low, h1, h2, h3, h4⟩ := hI.2 l h
          rw [h1]
          refine ⟨_, rfl, rfl, ?_, fun r => ?_⟩
          · -- in order
            have hlow : 0 < low.label.size := by rw [h2]; exact hpos
            cases hs : shapedN low (ns 1).1 with
            | none =>
              refine Ok.mk' ?_ (fun x hx => ho.parts.2.1 x (List.mem_of_mem_eraseIdx hx)) (fun x hx => ho.parts.2.2.get x (List.mem_of_mem_eraseIdx hx))
              exact ho.parts.1.sublist ((List.eraseIdx_sublist _ _).map fb)
            | some s =>
              obtain ⟨s1, s2, s3, s4⟩ := shaped_some h3 hlow hs
              refine Ok.mk' ?_ (fun x hx => ?_) (fun x hx => ?_)
              · show ((n.kids.set _ s).map fb).Pairwise (· < ·)
                rw [map_set_same _ _ _ hlt (by rw [s1, fb_label h2, ek])]; exact ho.parts.1
              · rcases List.mem_or_eq_of_mem_set hx with e | e
                · exact ho.parts.2.1 x e
                · rw [e]; exact s2
              · rcases List.mem_or_eq_of_mem_set hx with e | e
                · exact ho.parts.2.2.get x e
                · rw [e]; exact s3
          · -- what it holds
            by_cases hr : r = []
            · rw [if_neg (fun e => hne (by rw [← e, hr])), hr, findT_nil, findT_nil]; rfl
            · have hlow : 0 < low.label.size := by rw [h2]; exact hpos
              have hbl : below r low = if r = L rest then none else below r k := by
                unfold below
                rw [h2]
                by_cases hpr : 0 < k.label.size ∧ L k.label <+: r
                · rw [if_pos hpr, if_pos hpr, h4]
                  have hiff : r.drop k.label.size = (L rest).drop k.label.size ↔ r = L rest := by
                    obtain ⟨a, ha⟩ := hpr.2
                    obtain ⟨c, hc⟩ := hp
                    have hl : (L k.label).length = k.label.size := L_len _
                    rw [← ha, ← hc, ← hl, List.drop_left, List.drop_left]
                    exact ⟨fun e => by rw [e], fun e => List.append_cancel_left e⟩
                  by_cases e2 : r = L rest
                  · rw [if_pos e2, if_pos (hiff.2 e2)]
                  · rw [if_neg e2, if_neg (fun h => e2 (hiff.1 h))]
                · rw [if_neg hpr, if_neg hpr]; split <;> rfl
              rw [findT_eq _ _ hr, findT_eq n _ hr]
              show (kidT (putKid n.kids _ _) (hd r)).bind (below r) = _
              by_cases hx : fb k = hd r
              · have hkr : kidT n.kids (hd r) = some k := by rw [← hx, hfk]; exact e
                rw [hkr]
                simp only [Option.bind_some]
                cases hs : shapedN low (ns 1).1 with
                | none =>
                  show (kidT (n.kids.eraseIdx _) (hd r)).bind (below r) = _
                  rw [kidT_erase n.kids _ _ hlt ho.parts.1, ek, if_pos hx]
                  have hb0 : below r low = none := by unfold below; split; exact shaped_none hs _; rfl
                  rw [hb0] at hbl
                  exact hbl
                | some s =>
                  obtain ⟨s1, s2, s3, s4⟩ := shaped_some h3 hlow hs
                  show (kidT (n.kids.set _ s) (hd r)).bind (below r) = _
                  rw [kidT_set n.kids _ s (hd r) hlt (by rw [s1, fb_label h2, ek]) ho.parts.1, if_pos (by rw [s1, fb_label h2]; exact hx)]
                  simp only [Option.bind_some]
                  rw [s4, hbl]
              · have hne2 : r ≠ L rest := fun e => hx (by rw [e]; exact hfk)
                rw [if_neg hne2]
                cases hs : shapedN low (ns 1).1 with
                | none =>
                  show (kidT (n.kids.eraseIdx _) (hd r)).bind (below r) = _
                  rw [kidT_erase n.kids _ _ hlt ho.parts.1, ek, if_neg hx]
                | some s =>
                  obtain ⟨s1, s2, s3, s4⟩ := shaped_some h3 hlow hs
                  show (kidT (n.kids.set _ s) (hd r)).bind (below r) = _
                  rw [kidT_set n.kids _ s (hd r) hlt (by rw [s1, fb_label h2, ek]) ho.parts.1, if_neg (by rw [s1, fb_label h2]; exact hx)]
        · rw [if_neg hp] at hdn
          rw [hdn]
          unfold below
          rw [if_neg (fun h => hp h.2)]
          exact ⟨fun _ => rfl, fun l h => by cases h⟩
end Go.Proofs.Ytjhgknagmiekeaa.T
