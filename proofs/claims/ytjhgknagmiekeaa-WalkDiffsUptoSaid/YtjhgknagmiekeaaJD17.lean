/- joined: V30 N18 N16 N17 -/
import Derived.Test.YtjhgknagmiekeaaJD16
import Derived.Laws.EntriesVeiled
import Derived.Deep.RegionHeld3
import Derived.Test.YtjhgknagmiekeaaJD9
set_option linter.unusedVariables false
set_option linter.unusedSimpArgs false
namespace Go.Proofs.Ytjhgknagmiekeaa.V
open Go.Proofs.Ytjhgknagmiekeaa.VOU (below_drewA)
open Go.RowKit Go.Lib Go.Proofs Go.Shelf
open Go.Proofs.Ytjhgknagmiekeaa.T Go.Proofs.Ytjhgknagmiekeaa.N Go.Proofs.Ytjhgknagmiekeaa.K
open Go.Proofs.YtjhgknagmiekeaaW.PrintWords hiding blk_cell Kept
abbrev undL (p : ByteArray) (root : Nd) : List (ByteArray × Int) := ovr (fun q => skU (L p) (L q)) (fun q => kpU (L p) (L q)) ⟨#[]⟩ root
mutual
theorem ents_fit : ∀ (n : Nd) (p : List UInt8) (B : Nat) (x : Ent), Fits n B → x ∈ ents p n → x.1.length ≤ p.length + B
 | .mk b label leaf kids mark, p, B, x, hf, h => by
  have h1 := hf.parts.1
  rw [ents, List.mem_append] at h
  have hl : (L label).length = label.size := L_len label
  rcases h with h | h
  ·obtain ⟨l, -, rfl⟩ := List.mem_map.1 h
   show (p ++ L label).length ≤ _
   rw [List.length_append, hl]
   have : label.size ≤ B := h1
   omega
  ·have := entss_fit kids (p ++ L label) (B - label.size) x hf.parts.2 h
   rw [List.length_append, hl] at this
   have : label.size ≤ B := h1
   omega
theorem entss_fit : ∀ (ks : List Nd) (p : List UInt8) (B : Nat) (x : Ent), Fitss ks B → x ∈ entss p ks → x.1.length ≤ p.length + B
 | [], p, B, x, _, h => by rw [entss] at h; cases h
 | k :: r, p, B, x, hf, h => by
  rw [entss, List.mem_append] at h
  rcases h with h | h
  ·exact ents_fit k p B x (hf.mem k (by simp)) h
  ·exact entss_fit r p B x (Fitss.of (fun k hk => hf.mem k (by simp [hk]))) h
end
theorem undL_mem {root : Nd} (hf : Fine root) (hv : IntVals root) (p : ByteArray) (q : List UInt8) (x : Int) : (q, x) ∈ (undL p root).map ex ↔ L p <+: q ∧ valT root q = some (.int .i64 x) := by
 have e := ovr_all (skU (L p)) (kpU (L p)) (hskU (L p)) root ⟨#[]⟩ [] (by
  have := hf.toGood.top
  have : L root.label = [] := List.eq_nil_of_length_eq_zero (by rw [L_len, this])
  rw [this]; rfl)
 rw [show (undL p root).map ex = _ from e, List.mem_filter, show ents [] root = All root from rfl, mem_ey hf.toGood hv]
 unfold kpU
 rw [show (pre (q, x).1 (L p) = true) = (pre q (L p) = true) from rfl, pre_iff]
 exact ⟨fun h => ⟨h.2, h.1⟩, fun h => ⟨h.2, h.1⟩⟩
theorem undL_size {root : Nd} (hf : Fine root) (hv : IntVals root) (p : ByteArray) {x : ByteArray × Int} (hx : x ∈ undL p root) : x.1.size < 4000000000000 := by
 have h1 := (undL_mem hf hv p (L x.1) x.2).1 (List.mem_map_of_mem hx)
 have h2 := (mem_ey hf.toGood hv _ _).2 h1.2
 obtain ⟨e, he, h3⟩ := List.mem_map.1 h2
 have h4 := ents_fit root [] _ e hf.fits he
 have h5 : e.1 = L x.1 := by unfold ey at h3; exact (Prod.mk.inj h3).1
 rw [h5, L_len] at h4
 simp at h4
 omega
def lessK (f : List UInt8 → Option Value) (ys : List (ByteArray × Int)) (r : List UInt8) : Option Value := if r ∈ ys.map (fun y => L y.1) then none else f r
theorem lessK_snoc (f : List UInt8 → Option Value) (ys : List (ByteArray × Int)) (y : ByteArray × Int) (r : List UInt8) : lessK f (ys ++ [y]) r = if r = L y.1 then none else lessK f ys r := by
 unfold lessK
 rw [List.map_append]
 simp only [List.map_cons, List.map_nil, List.mem_append, List.mem_singleton]
 by_cases h1 : r ∈ ys.map (fun y => L y.1)
 ·rw [if_pos (.inl h1), if_pos h1]; split <;> rfl
 ·by_cases h2 : r = L y.1
  ·rw [if_pos (.inr h2), if_pos h2]
  ·rw [if_neg (fun h => h.elim h1 h2), if_neg h2, if_neg h1]
theorem lessK_end {root : Nd} (hf : Fine root) (hv : IntVals root) (p : ByteArray) (r : List UInt8) : lessK (valT root) (undL p root) r = if L p <+: r then none else valT root r := by
 unfold lessK
 have hm : r ∈ (undL p root).map (fun y => L y.1) ↔ ∃ x, (r, x) ∈ (undL p root).map ex := by
  constructor
  ·intro h
   obtain ⟨y, hy, rfl⟩ := List.mem_map.1 h
   exact ⟨y.2, List.mem_map_of_mem hy⟩
  ·rintro ⟨x, h⟩
   obtain ⟨y, hy, e⟩ := List.mem_map.1 h
   exact List.mem_map.2 ⟨y, hy, by unfold ex at e; exact (Prod.mk.inj e).1⟩
 by_cases h1 : L p <+: r
 ·rw [if_pos h1]
  split
  ·rfl
  ·rename_i h2
   cases hf2 : findT root r with
   | none => unfold valT; rw [hf2]; rfl
   | some l =>
    exfalso
    obtain ⟨v, ev⟩ := hv _ _ hf2
    refine h2 (hm.2 ⟨v, (undL_mem hf hv p r v).2 ⟨h1, ?_⟩⟩)
    unfold valT
    rw [hf2, Option.map_some, ev]
 ·rw [if_neg h1, if_neg (fun h => by
   obtain ⟨x, hx⟩ := hm.1 h
   exact h1 ((undL_mem hf hv p r x).1 hx).1)]
attribute [local go_sem] Oper.semAt_some
set_option maxRecDepth 100000 in
set_option maxHeartbeats 4000000 in
theorem trimC (tb : Nat) (root : Nd) (p : ByteArray) (w : World) (ht : Tr w tb root) (hs : (All root).length < 1000000000000) :
  Calls Try.prog 55 #[ptr tb, .string p] w fun e w' => ∃ ub ur, e = .returned (.tuple #[ptr ub, .int .i64 ((undL p root).length : Nat)]) ∧ Tr w' ub ur ∧ (∀ r, valT ur r = if L p <+: r then none else valT root r) ∧ (All ur).length ≤ (All root).length ∧ (undL p root = [] → ub = tb ∧ ur = root) ∧ Below w.heap.size w w' := by
 refine callsIn_wide.1 (show CallsIn Fence.wide 9 Try.prog 55 _ w _ from ?_)
 have q := Aside0.mk (fun w1 => show CallsIn Fence.wide 8 Try.prog 22 _ w1 _ from callsIn_wide.2 (underC tb p w1))
 obtain ⟨NN, hNN⟩ : ∃ NN, (undL p root).length = NN := ⟨_, rfl⟩
 rw [hNN]
 unfold ptr at q ⊢
 have hdd : ∀ k : Nat, (Fence.wide.depth.isSome = true → 1 ≤ k) := fun k h => by cases h
 have HT := Aside0.mk (And.intro ht hs)
 clear ht hs
 refine callsIn_of_wp_marks Try.func55 rfl trivial ?_ rfl
 simp only [Try.ntmps55, List.size_toArray, List.length_cons, List.length_nil, Nat.reduceAdd, Nat.reduceSub, Array.replicate_succ, Array.replicate_zero, List.push_toArray, List.append_toArray, List.nil_append, List.cons_append]
 gi_wp2_with (refine ⟨trivial, ?_⟩; gi_at_call 22; refine (q.out _).mono ?_; rintro e w1 ⟨bp, bt, bs, bk, rfl, h0, h1, h2, h3, h4, h5⟩)
 clear q
 simp only [World.size_alloc] at h0 h5
 have hw1 : w.heap.size + 1 + 1 ≤ w1.heap.size := by have := h5.size; simp only [World.size_alloc] at this; exact this
 have bU : Boxed w1 w.heap.size 24 (ptr tb) := (h5.block _ (by omega)).trans ((Below.heap_alloc _ _ _ (by simp)).trans (World.alloc_heap_new w _))
 have bC : Boxed w1 (w.heap.size + 1) 3 (.int .i64 0) := (h5.block _ (by omega)).trans (by have := World.alloc_heap_new (w.alloc (Obj.cells #[.pointer (some ⟨tb, 0, none⟩)] 24)) (Obj.cells #[.int .i64 0] 3); rwa [World.size_alloc] at this)
 have hB0 : Below w.heap.size w w1 := (((Below.refl _ w).alloc (Nat.le_refl _) _).alloc (by simp) _).trans (h5.mono (by omega))
 have hbp : bp < w1.heap.size := (Array.getElem?_eq_some_iff.1 h1).1
 have hNs : NN ≤ (All root).length := by
  have e := ovr_all (skU (L p)) (kpU (L p)) (hskU (L p)) root ⟨#[]⟩ [] (by
   have := HT.out.1.fine.toGood.top
   have : L root.label = [] := List.eq_nil_of_length_eq_zero (by rw [L_len, this])
   rw [this]; rfl)
  have e2 := congrArg List.length e
  rw [List.length_map] at e2
  rw [← hNN, show (undL p root).length = _ from e2]
  refine Nat.le_trans (List.length_filter_le _ _) ?_
  rw [List.length_map]
  exact Nat.le_refl _
 have hall := HT.out.2
 refine wpIn_rangeFuncO rfl (by decide) (gf := 117) (lb := #[ptr bt, ptr bs, ptr bk]) rfl trivial (enters_of Try.func117 (by kernel_rfl) rfl)
  (VOU.seq w1 8 NN w1.heap.size (fun k => k = w.heap.size ∨ k = w.heap.size + 1) w (Kept.of hB0) (by omega) (Nat.le_refl _) (fun k hk e => by omega) tb root HT.out.1 bp bt bs bk ⟨h2, h3, h4⟩ p h1 hbp (fun e => by omega) (Nat.le_of_eq hNN))
  (fun h k => kpT h k) (fun W o o' h hc => KpM.putObj W _ o o' (by omega) h hc) (Below.refl _ _) (fun _ => rfl)
  (fun pre W => (∃ ub ur, Boxed W w.heap.size 24 (ptr ub) ∧ Tr W ub ur ∧ (∀ r, valT ur r = lessK (valT root) pre r) ∧ (All ur).length ≤ (All root).length ∧ (pre = [] → ub = tb ∧ ur = root)) ∧ Boxed W (w.heap.size + 1) 3 (.int .i64 (pre.length : Int)) ∧ Below w.heap.size w W ∧ w1.heap.size ≤ W.heap.size)
  (fun _ _ _ => False) ?hI (fun _ _ _ _ _ hs _ _ => hs) ⟨⟨tb, root, bU, HT.out.1.keep (Kept.of hB0), fun r => by simp [lessK], Nat.le_refl _, fun _ => ⟨rfl, rfl⟩⟩, bC, hB0, Nat.le_refl _⟩ (fun (x : ByteArray × Int) a' (Z : World) => a' = { tmps := #[.pointer (some ⟨tb, 0, none⟩), .string p, undef, undef, .pointer none, .int .i64 0, .pointer (some ⟨w.heap.size, 0, none⟩), .pointer (some ⟨w.heap.size + 1, 0, none⟩), .string x.1, .pointer (some ⟨tb, 0, none⟩), .pointer (some ⟨tb, 0, none⟩), .string p, .func (.func 117) #[] #[.pointer (some ⟨bt, 0, none⟩), .pointer (some ⟨bs, 0, none⟩), .pointer (some ⟨bk, 0, none⟩)], .string x.1, .int .i64 x.2, undef, undef, undef, undef, undef, undef, undef, undef, undef, undef, undef], defers := [] }) (fun x a' => ownT_pure _ (fun _ => a' = _)) ?assign ?body ?done ?stop
 case hI =>
  refine OwnT.and (fun s X Y row hs hg hr => ?_) (OwnT.and (ownT_old (w.heap.size + 1) (fun pre : List (ByteArray × Int) => .cells #[.int .i64 (pre.length : Int)] 3 (0, 0)) (by omega)) (OwnT.and (ownT_below (Nat.le_refl _) (by omega)) (ownT_size _)))
  obtain ⟨ub, ur, k1, k2, k3, k4, k5⟩ := hs
  exact ⟨ub, ur, ownT_old (β := Unit) (B := w1.heap.size) w.heap.size (fun _ => .cells #[ptr ub] 24 (0, 0)) (by omega) () X Y row k1 hg hr, ownT_tr (β := Unit) (B := w1.heap.size) ub ur () X Y row k2 hg hr, k3, k4, k5⟩
 case assign =>
  intro l' m' pre x Wa K hI hok hK
  gi_wp2
  exact hK _ _ (KeepsU.refl _ _) (KpM.of (Below.refl _ _)) hI rfl
 case body =>
  rintro l' m' pre x a' W hl' hr0 hszW ⟨⟨ub, ur, hu, hut, huv, hul, -⟩, hn, hB, hW⟩ rfl hlt hok
  have hx : x ∈ undL p root := hok.subset (by simp)
  have hxs := undL_size HT.out.1.fine HT.out.1.vals p hx
  have q39 := Aside0.mk (fun m => callsIn_round l' (callsIn_wide.2 (delP W ub ur hut x.1 hxs (by omega)) : CallsIn Fence.wide m _ _ _ _ _))
  have HU := Aside0.mk (And.intro hu (And.intro huv hul))
  have HR := Aside0.mk (And.intro hn (And.intro hB hW))
  have cu := hu.cell
  have hpl : pre.length < NN := hlt
  clear hu hut huv hul hn hB hW hr0 hok hx
  unfold ptr at q39 cu
  gi_wp2_with fail
  refine ⟨trivial, hdd _, ?_⟩
  gi_at_call 39
  refine (q39.out _).mono ?_
  rintro e W4 ⟨ub2, ur2, a2, b2, rfl, t2, v2, l2, B2⟩
  have bU4 : Boxed W4 w.heap.size 24 (ptr ub) := (Kept.of B2).at HU.out.1
  have cU4 := bU4.cell
  have fU4 := bU4.frozen
  have bN4 : Boxed W4 (w.heap.size + 1) 3 (.int .i64 (pre.length : Int)) := (Kept.of B2).at HR.out.1
  have bN5 : Boxed (W4.setCell { block := w.heap.size, off := 0 } (.pointer (some { block := ub2, off := 0 }))) (w.heap.size + 1) 3 (.int .i64 (pre.length : Int)) := (Below.heap_setCell W4 { block := w.heap.size, off := 0 } _ (w.heap.size + 1) (show w.heap.size + 1 ≠ w.heap.size by omega)).trans bN4
  have cN4 := bN5.cell
  have fN4 := bN5.frozen
  clear bN5
  have H4 := Aside0.mk (And.intro bU4 (And.intro t2 (And.intro v2 (And.intro l2 (And.intro B2 bN4)))))
  unfold ptr at cU4
  clear bU4 t2 v2 l2 B2 bN4
  gi_wp2_with fail
  obtain ⟨bU4, t2, v2, l2, B2, bN4⟩ := H4.out
  obtain ⟨gu, guv, gul⟩ := HU.out
  obtain ⟨gn, gB, gW⟩ := HR.out
  have bU5 : Boxed (W4.setCell { block := w.heap.size, off := 0 } (ptr ub2)) w.heap.size 24 (ptr ub2) := bU4.set _
  have bN5 : Boxed (W4.setCell { block := w.heap.size, off := 0 } (ptr ub2)) (w.heap.size + 1) 3 (.int .i64 (pre.length : Int)) := (Below.heap_setCell W4 { block := w.heap.size, off := 0 } _ (w.heap.size + 1) (show w.heap.size + 1 ≠ w.heap.size by omega)).trans bN4
  have e : ((pre ++ [x]).length : Int) = (pre.length : Int) + 1 := by simp
  have s2 := B2.size
  have s4 : (W4.setCell { block := w.heap.size, off := 0 } (ptr ub2)).heap.size = W4.heap.size := T.size_setCell _ _ _
  refine ⟨((KeepsU.of B2).trans (KeepsU.set W4 (ptr ub2) (by omega))).trans (KeepsU.set _ _ (by omega)), ((KpM.of B2).trans (KpM.setBox (M := fun k => k = w.heap.size ∨ k = w.heap.size + 1) bU4 (by decide) (.inl rfl) (ptr ub2))).trans (KpM.setBox (M := fun k => k = w.heap.size ∨ k = w.heap.size + 1) bN5 (by decide) (.inr rfl) _), ⟨ub2, ur2, ?_, ?_, fun r => ?_, Nat.le_trans l2 gul, fun e => by simp at e⟩, ?_, ?_, ?_⟩
  ·exact (Below.heap_setCell (W4.setCell { block := w.heap.size, off := 0 } (ptr ub2)) { block := w.heap.size + 1, off := 0 } _ w.heap.size (show w.heap.size ≠ w.heap.size + 1 by omega)).trans bU5
  ·exact farB_tr (farB_box bN5 (by unfold TreeTy; decide) _) (farB_tr (farB_box bU4 (by unfold TreeTy; decide) (ptr ub2)) t2)
  ·rw [lessK_snoc, v2 r, guv r]
  ·rw [e]
   exact bN5.set _
  ·exact ((gB.trans (B2.mono (by omega))).setCell (p := ⟨w.heap.size, 0, none⟩) (Nat.le_refl _) (ptr ub2)).setCell (p := ⟨w.heap.size + 1, 0, none⟩) (by show w.heap.size ≤ w.heap.size + 1; omega) _
  ·show w1.heap.size ≤ ((W4.setCell { block := w.heap.size, off := 0 } (ptr ub2)).setCell { block := w.heap.size + 1, off := 0 } _).heap.size
   rw [T.size_setCell, s4]
   omega
 case done =>
  rintro D ys W hD e9 ⟨⟨ub, ur, hu, hut, huv, hul, hue⟩, hn, hB, hW⟩ hK
  have hys : ys = undL p root := e9
  subst hys
  rw [hNN] at hn
  have cu := hu.cell
  have cn := hn.cell
  have HE := Aside0.mk (And.intro hu (And.intro hut (And.intro huv (And.intro hul (And.intro hue (And.intro hn (And.intro hB (And.intro hW (And.intro hK hD)))))))))
  clear hu hut huv hul hue hn hB hW hK hD bU bC hB0 h1 h2 h3 h4 h5 h0
  unfold ptr at cu
  gi_wp2_with fail
  refine wpIn_wide.2 ?_
  refine Code.wp_mono NoPanic.imp ?_
  go_region_held3 (fun Z => Z.cell? ⟨w.heap.size, 0, none⟩ = some (.pointer (some ⟨ub, 0, none⟩)) ∧ Z.cell? ⟨w.heap.size + 1, 0, none⟩ = some (.int .i64 (NN : Int)))
   (first | exact ⟨cu, cn⟩)
   (fail)
  refine NoPanic.normal ?_
  gi_wp2_with fail
  obtain ⟨hu, hut, huv, hul, hue, hn, hB, hW, hK, hD⟩ := HE.out
  have hKd : W.drew.heap[D]? = some (.deferred (some [])) := hK
  refine ⟨by simp, .inl ⟨_, _, rfl, run_takeDeferred hKd, ?_⟩⟩
  refine ⟨.tuple #[.pointer (some ⟨ub, 0, none⟩), .int .i64 (NN : Int)], by simp [results, Try.results55, go_sem], ?_⟩
  ·have hdr : Below W.heap.size W W.drew := below_drewA (Below.refl _ _)
   refine ⟨ub, ur, rfl, farB_tr (X := fun k => k = D) ⟨fun k hk cs t fr h => ?_, fun k hk h1 => World.putObj_heap_other hk⟩ (hut.keep (Kept.of hdr)), fun r => by rw [huv r, lessK_end HT.out.1.fine HT.out.1.vals], hul, hue, (hB.trans (hdr.mono hB.size)).trans (belowK_b (w := w1) (by omega) W.drew D _ _ hD hKd rfl rfl)⟩
   subst hk
   rw [hKd] at h
   cases h
 case stop =>
  rintro D cd pre W _ _ h _
  exact h.elim
end Go.Proofs.Ytjhgknagmiekeaa.V
set_option linter.unusedVariables false
set_option linter.unusedSimpArgs false
namespace Go.Proofs.Ytjhgknagmiekeaa.N
open Go.RowKit Go.Lib Go.Proofs
open Go.Proofs.Ytjhgknagmiekeaa.K Go.Proofs.YtjhgknagmiekeaaW.PrintWords Go.Proofs.YtjhgknagmiekeaaW.PrintLast
structure InS (w W : World) (B : Nat) (bt bz : Array Value) (v0 v1 v2 : Value) (x0 : List ByteArray) (x1 x2 : List Int) : Prop where
  r0 : Kd.R Kd.string 9 W w.heap.size (fun _ => True) v0 x0
  r1 : Kd.R (Kd.int .i64) 3 W w.heap.size (fun k => some k ≠ v2.ownBlock) v1 x1
  r2 : Kd.R (Kd.int .i64) 3 W w.heap.size (fun k => some k ≠ v1.ownBlock) v2 x2
  bt : W.heap[w.heap.size]? = some (.cells bt 28 (0, 0))
  bz : W.heap[w.heap.size + 1]? = some (.cells bz 28 (0, 0))
  bu : W.heap[B]? = some (.cells #[v0, v1, v2, .slice none 0 0, .slice none 0 0] 28 (0, 0))
  bl : Below w.heap.size w W
  hB : w.heap.size + 2 ≤ B
theorem R_self {α : Type} {enc : α → Value} {h1 : ∀ x, (enc x).oneCell' = true} {e base : Nat} {ok : Nat → Prop} {w : World} {v : Value} {xs : List α} (h : (Kd.scalar enc h1).R e w base ok v xs) : (Kd.scalar enc h1).R e w base (fun k => v.ownBlock = some k) v xs := Kd.R_of_own (Kd.own_of_R h) (fun k hk => hk)
section
variable {w W w1 : World} {B : Nat} {bt bz : Array Value} {v0 v1 v2 v' : Value} {x0 x0' : List ByteArray} {x1 x2 x' : List Int}
theorem InS.drew (h : InS w W B bt bz v0 v1 v2 x0 x1 x2) : InS w W.drew B bt bz v0 v1 v2 x0 x1 x2 := ⟨Kd.R_drew h.r0, Kd.R_drew h.r1, Kd.R_drew h.r2, h.bt, h.bz, h.bu, below_drew h.bl, h.hB⟩
theorem InS.app0 (h : InS w W B bt bz v0 v1 v2 x0 x1 x2) (HO : Kd.R Kd.string 9 w1 w.heap.size (fun _ => True) v' x0') (hb : Below w.heap.size w w1) (hg : W.grownBy w1 v0.ownBlock) (hat : v'.ownBlock = v0.ownBlock ∨ ∃ b, v'.ownBlock = some b ∧ W.heap.size ≤ b) :
    w1.heap[w.heap.size]? = some (.cells bt 28 (0, 0)) ∧ w1.heap[B]? = some (.cells #[v0, v1, v2, .slice none 0 0, .slice none 0 0] 28 (0, 0)) ∧ InS w (w1.setCell ⟨B, 0, none⟩ v') B bt bz v' v1 v2 x0' x1 x2 := by
  have b1 := blk_grown h.bt hg (Kd.R_ne h.r0 h.bt (by decide))
  have b2 := blk_grown h.bz hg (Kd.R_ne h.r0 h.bz (by decide))
  have b3 := blk_grown h.bu hg (Kd.R_ne h.r0 h.bu (by decide))
  have hB := h.hB
  exact ⟨b1, b3, Kd.R_set HO b3 (by decide) 0 v', Kd.R_set (Kd.R_over' h.r1 (Kd.R_typed h.r0) (by decide) hg) b3 (by decide) 0 v', Kd.R_set (Kd.R_over' h.r2 (Kd.R_typed h.r0) (by decide) hg) b3 (by decide) 0 v', (Below.heap_setCell _ _ _ _ (by show _ ≠ B; omega)).trans b1, (Below.heap_setCell _ _ _ _ (by show _ ≠ B; omega)).trans b2, V.set_at b3 0 v', hb.setCell (by show w.heap.size ≤ B; omega) _, h.hB⟩
theorem InS.app1 (h : InS w W B bt bz v0 v1 v2 x0 x1 x2) (HO : Kd.R (Kd.int .i64) 3 w1 w.heap.size (fun k => some k ≠ v2.ownBlock) v' x') (hb : Below w.heap.size w w1) (hg : W.grownBy w1 v1.ownBlock) (hat : v'.ownBlock = v1.ownBlock ∨ ∃ b, v'.ownBlock = some b ∧ W.heap.size ≤ b) :
    w1.heap[w.heap.size]? = some (.cells bt 28 (0, 0)) ∧ w1.heap[B]? = some (.cells #[v0, v1, v2, .slice none 0 0, .slice none 0 0] 28 (0, 0)) ∧ InS w (w1.setCell ⟨B, 1, none⟩ v') B bt bz v0 v' v2 x0 x' x2 := by
  have b1 := blk_grown h.bt hg (Kd.R_ne h.r1 h.bt (by decide))
  have b2 := blk_grown h.bz hg (Kd.R_ne h.r1 h.bz (by decide))
  have b3 := blk_grown h.bu hg (Kd.R_ne h.r1 h.bu (by decide))
  have hB := h.hB
  have q2 : Kd.R (Kd.int .i64) 3 w1 w.heap.size (fun k => some k ≠ v'.ownBlock) v2 x2 := Kd.R_mono (Kd.R_after (ok := fun _ => True) (Kd.R_mono h.r2 (fun _ hk => ⟨trivial, hk⟩)) hg hat) (fun _ hk => hk.2)
  exact ⟨b1, b3, Kd.R_set (Kd.R_over' h.r0 (Kd.R_typed h.r1) (by decide) hg) b3 (by decide) 1 v', Kd.R_set HO b3 (by decide) 1 v', Kd.R_set q2 b3 (by decide) 1 v', (Below.heap_setCell _ _ _ _ (by show _ ≠ B; omega)).trans b1, (Below.heap_setCell _ _ _ _ (by show _ ≠ B; omega)).trans b2, V.set_at b3 1 v', hb.setCell (by show w.heap.size ≤ B; omega) _, h.hB⟩
theorem InS.app2 (h : InS w W B bt bz v0 v1 v2 x0 x1 x2) (HO : Kd.R (Kd.int .i64) 3 w1 w.heap.size (fun k => some k ≠ v1.ownBlock) v' x') (hb : Below w.heap.size w w1) (hg : W.grownBy w1 v2.ownBlock) (hat : v'.ownBlock = v2.ownBlock ∨ ∃ b, v'.ownBlock = some b ∧ W.heap.size ≤ b) :
    w1.heap[w.heap.size]? = some (.cells bt 28 (0, 0)) ∧ w1.heap[B]? = some (.cells #[v0, v1, v2, .slice none 0 0, .slice none 0 0] 28 (0, 0)) ∧ InS w (w1.setCell ⟨B, 2, none⟩ v') B bt bz v0 v1 v' x0 x1 x' := by
  have b1 := blk_grown h.bt hg (Kd.R_ne h.r2 h.bt (by decide))
  have b2 := blk_grown h.bz hg (Kd.R_ne h.r2 h.bz (by decide))
  have b3 := blk_grown h.bu hg (Kd.R_ne h.r2 h.bu (by decide))
  have hB := h.hB
  have q1 : Kd.R (Kd.int .i64) 3 w1 w.heap.size (fun k => some k ≠ v'.ownBlock) v1 x1 := Kd.R_mono (Kd.R_after (ok := fun _ => True) (Kd.R_mono h.r1 (fun _ hk => ⟨trivial, hk⟩)) hg hat) (fun _ hk => hk.2)
  exact ⟨b1, b3, Kd.R_set (Kd.R_over' h.r0 (Kd.R_typed h.r2) (by decide) hg) b3 (by decide) 2 v', Kd.R_set q1 b3 (by decide) 2 v', Kd.R_set HO b3 (by decide) 2 v', (Below.heap_setCell _ _ _ _ (by show _ ≠ B; omega)).trans b1, (Below.heap_setCell _ _ _ _ (by show _ ≠ B; omega)).trans b2, V.set_at b3 2 v', hb.setCell (by show w.heap.size ≤ B; omega) _, h.hB⟩
theorem InS.f1 (h : InS w W B bt bz v0 v1 v2 x0 x1 x2) : ∀ k, W.heap.size ≤ k → some k ≠ v2.ownBlock := fun k hk e => by
  have := Kd.R_lt h.r2 k e.symm; omega
theorem InS.f2 (h : InS w W B bt bz v0 v1 v2 x0 x1 x2) : ∀ k, W.heap.size ≤ k → some k ≠ v1.ownBlock := fun k hk e => by
  have := Kd.R_lt h.r1 k e.symm; omega
theorem InS.sz (h : InS w W B bt bz v0 v1 v2 x0 x1 x2) : w.heap.size ≤ W.heap.size := h.bl.size
end
theorem insert_ex3 (t : Rt) (h : RokP t) (a : ByteArray) (v nx : Int) (n : Nat) (b : Bool) (f1 : n ≤ t.ks.length) (f3 : b = true → n < t.ks.length ∧ gd t.ks n = a) (hc : Cut t.ks a n n) (hb : b = true ↔ a ∈ t.ks) (ha : a.size < 4611686018427387904) (hl : t.ks.length < 100000000000) :
    ∃ (P : List ByteArray) (M : List Int) (nx' : Int), Ev (fun k => musterref03_remade.f k t.ks t.vs t.ls t.ps t.ms (putAt t.ks n b a) (putAt t.vs n b v) (putAt t.ls n b nx) [] [] a (wrap64 (nx + 1))) (putAt t.ks n b a, putAt t.vs n b v, putAt t.ls n b nx, P, M, nx') ∧ RokP ⟨putAt t.ks n b a, putAt t.vs n b v, putAt t.ls n b nx, P, M⟩ ∧ MkR t.ps t.ms a P (wrap64 (nx + 1)) M nx' ∧ (putAt t.ks n b a).length ≤ t.ks.length + 1 := by
  have e1 := putAt_len t.ks n b a f1 (fun e => (f3 e).1)
  have e2 := putAt_len t.vs n b v (by rw [h.v]; exact f1) (fun e => by rw [h.v]; exact (f3 e).1)
  have e3 := putAt_len t.ls n b nx (by rw [h.l]; exact f1) (fun e => by rw [h.l]; exact (f3 e).1)
  have hK : (putAt t.ks n b a).length ≤ t.ks.length + 1 := by rw [e1]; split <;> omega
  have hKs : Sml (putAt t.ks n b a) := fun x hx => by
    rcases mem_putAt hx with h1 | h1
    · exact h.sk x h1
    · rw [h1]; exact ha
  have hp := h.p
  obtain ⟨P, M, nx', r1, r2, r3, r4, r5, r6⟩ := remade_ex2 t.ps t.ms (putAt t.ks n b a) (putAt t.vs n b v) (putAt t.ls n b nx) [] [] t.ks t.vs t.ls a (wrap64 (nx + 1)) h.m (by omega) h.sp h.prise (by omega) hKs
  exact ⟨P, M, nx', r1, ⟨⟨by show (putAt t.vs n b v).length = (putAt t.ks n b a).length; rw [e1, e2, h.v], by show (putAt t.ls n b nx).length = (putAt t.ks n b a).length; rw [e1, e3, h.l], r2.len, r3, hKs, r4, rise_put h.rise hc f3 hb⟩, r5, r6⟩, r2, hK⟩
end Go.Proofs.Ytjhgknagmiekeaa.N
set_option linter.unusedVariables false
set_option linter.unusedSimpArgs false
namespace Go.Proofs.Ytjhgknagmiekeaa.N
open Go.RowKit Go.Lib Go.Proofs
open Go.Proofs.Ytjhgknagmiekeaa.K Go.Proofs.YtjhgknagmiekeaaW.PrintWords Go.Proofs.YtjhgknagmiekeaaW.PrintLast
open Go.Proofs.Ytjhgknagmiekeaa.T (Nd Lf Ent All valT findT IntVals Fine Tr)
open Go.Proofs.Ytjhgknagmiekeaa.V (kpU pre)
theorem C_heap {α : Type} {enc : α → Value} {h1 : ∀ x, (enc x).oneCell' = true} {w w2 : World} {A : Option Addr} {n : Nat} {xs : List α} (h : (Kd.scalar enc h1).C w A n xs) (hs : w.heap.size ≤ w2.heap.size) (hk : ∀ k, k < w.heap.size → w2.heap[k]? = w.heap[k]?) : (Kd.scalar enc h1).C w2 A n xs :=
 Kd.C_below (w1 := { w with heap := w2.heap }) h ⟨rfl, rfl, rfl, hs, hk⟩
theorem SlS.heap {w w2 : World} {v : Value} {xs : List ByteArray} (h : SlS w v xs) (hs : w.heap.size ≤ w2.heap.size) (hk : ∀ k, k < w.heap.size → w2.heap[k]? = w.heap[k]?) : SlS w2 v xs := by
 obtain ⟨A, c, h1, h2, h3⟩ := h
 exact ⟨A, c, h1, h2, C_heap h3 hs hk⟩
theorem SlI.heap {w w2 : World} {v : Value} {xs : List Int} (h : SlI w v xs) (hs : w.heap.size ≤ w2.heap.size) (hk : ∀ k, k < w.heap.size → w2.heap[k]? = w.heap[k]?) : SlI w2 v xs := by
 obtain ⟨A, c, h1, h2, h3⟩ := h
 exact ⟨A, c, h1, h2, C_heap h3 hs hk⟩
theorem RtAt.off {w : World} {t : Rt} {v0 v1 v2 v3 v4 : Value} (h : RtAt w t v0 v1 v2 v3 v4) : RtOff (fun _ => False) w t v0 v1 v2 v3 v4 := fun w2 hs hk =>
 ⟨h.a0.heap hs (fun k h1 => hk k h1 id), h.a1.heap hs (fun k h1 => hk k h1 id), h.a2.heap hs (fun k h1 => hk k h1 id), h.a3.heap hs (fun k h1 => hk k h1 id), h.a4.heap hs (fun k h1 => hk k h1 id)⟩
theorem str_at {w : World} {A : Option Addr} {N : Nat} {xs : List ByteArray} (h : Kd.C Kd.string w A N xs) (n : Nat) (hn : n < xs.length) : ∃ ad, A = some ad ∧ ad.block < w.heap.size ∧ ∀ W : World, W.heap[ad.block]? = w.heap[ad.block]? → W.cell? (ad.add n) = some (.string (gd xs n)) := by
 have hl := Kd.C_len h
 obtain ⟨ad, cc, h1, h2, h3, h4⟩ := Kd.C_get h ⟨#[]⟩ (n : Int) (by omega) (by omega)
 have h5 : cc = [.string (gd xs n)] := h3
 have h6 := h4 0 (.string (gd xs n)) (by rw [h5]; rfl)
 have e : (n : Int).toNat * Kd.string.sz + 0 = n := by rw [show Kd.string.sz = 1 from rfl]; omega
 rw [e] at h6
 exact ⟨ad, h1, by have := World.block_lt_of_cell? w _ h6; rwa [add_block] at this, fun W hW => (World.cell?_of_block (a := ad.add n) (by rw [add_block]; exact hW)).trans h6⟩
theorem underRtR (w : World) (t : Rt) (h : Rok t) (hl : t.ks.length < 100000000000) (v0 v1 v2 v3 v4 : Value) (hm : RtAt w t v0 v1 v2 v3 v4) (p : ByteArray) :
  Calls Try.prog 24 #[.agg #[v0, v1, v2, v3, v4], .string p] w fun e w' => ∃ A c, e = .returned (.slice A (ints (plc t.ks (fun k => kpU (T.L p) (T.L k)))).length c) ∧ (∀ w2, Rob w.heap.size w' w2 → Kd.C (Kd.int .i64) w2 A (ints (plc t.ks (fun k => kpU (T.L p) (T.L k)))).length (ints (plc t.ks (fun k => kpU (T.L p) (T.L k))))) ∧ Below w.heap.size w w' := by
 obtain ⟨k, hk⟩ := (under_ev t h hl p).rounds
 obtain ⟨⟨A0, c0, rfl, p0, q0⟩, ⟨A1, c1, rfl, p1, q1⟩, ⟨A2, c2, rfl, p2, q2⟩, ⟨A3, c3, rfl, p3, q3⟩, ⟨A4, c4, rfl, p4, q4⟩⟩ := hm
 refine (musterref04_Under.calls k A0 c0 t.ks A1 c1 t.vs A2 c2 t.ls A3 c3 t.ps A4 c4 t.ms p _ w q0 p0 q1 p1 q2 p2 q3 p3 q4 p4 hk).mono ?_
 rintro e w' ⟨v, rfl, hr, hb⟩
 obtain ⟨A, c, rfl, h1, h2⟩ := Kd.R_reads hr
 refine ⟨A, c, rfl, fun w2 h2 => ?_, hb⟩
 obtain ⟨A', c', e, -, h4⟩ := Kd.R_reads (R_rob hr h2)
 injection e with e _ _
 rw [e]
 exact h4
theorem RtOff.set {M' M : Nat → Prop} {W4 W5 : World} {t : Rt} {u0 u1 u2 u3 u4 : Value} {b : Nat} (h : RtOff M' W4 t u0 u1 u2 u3 u4) (hM : ∀ k, M k → M' k) (hb : M b) (hs : W5.heap.size = W4.heap.size) (hk : ∀ k, k ≠ b → W5.heap[k]? = W4.heap[k]?) : RtOff M W5 t u0 u1 u2 u3 u4 := fun w2 h1 h2 =>
 h w2 (by omega) (fun k h3 h4 => (h2 k (by omega) (fun h5 => h4 (hM k h5))).trans (hk k (fun e => h4 (by rw [e]; exact hM b hb))))
def trim_T : Bool × List (List Nat × List Nat) := (true, [([], []), ([], []), ([1], [1]), ([], []), ([2, 3], [2, 3]), ([4], [4]), ([], []), ([0, 5, 6], [0, 5, 6]), ([7], [7]), ([8], [8]), ([8], [8]), ([8], [8]), ([8], [8]), ([9, 7, 0, 1, 2, 3, 4, 5, 6, 7, 8, 9], [9]), ([12, 13, 0, 1, 2, 3, 4, 5, 6, 7, 8, 9, 10, 11, 12, 13], [6, 12])])
def trim_B : List Nat := [0, 0, 2, 0, 14, 30, 0, 127, 255, 511, 511, 511, 511, 1023, 16383]
theorem trim_bits6 : waitsOk trim_T.2 trim_B = true := by kernel_rfl
theorem trim_tab6 : rtab .any (opsOf Try.f56 6) = trim_T := by kernel_rfl
attribute [local go_sem] Oper.semAt_some
set_option maxRecDepth 100000 in
set_option maxHeartbeats 2000000 in
theorem trimRtC (f : List UInt8 → Option Value) (hf : ∀ q v, f q = some v → ∃ x, v = .int .i64 x) (w : World) (t : Rt) (h : RokP t) (hag : AgreeF f t) (v0 v1 v2 v3 v4 : Value) (hm : RtAt w t v0 v1 v2 v3 v4) (p : ByteArray) (nx : Int) (hl : t.ks.length < 100000000000) :
  Calls Try.prog 56 #[.agg #[v0, v1, v2, v3, v4], .string p, .int .i64 nx] w fun e w' => ∃ (t' : Rt) (nx' : Int) (u0 u1 u2 u3 u4 : Value), e = .returned (.tuple #[.agg #[u0, u1, u2, u3, u4], .int .i64 ((plc t.ks (fun k => kpU (T.L p) (T.L k))).length : Nat), .int .i64 nx']) ∧ RtAt w' t' u0 u1 u2 u3 u4 ∧ RokP t' ∧ AgreeF (fun q => if T.L p <+: q then none else f q) t' ∧ t'.ks.length ≤ t.ks.length ∧ Below w.heap.size w w' := by
 have HM := Aside0.mk hm
 have HH := Aside0.mk (And.intro h (And.intro hag (And.intro hf hl)))
 have qu := Aside0.mk (fun w1 (hB : Below w.heap.size w w1) => underRtR w1 t h.toRok hl v0 v1 v2 v3 v4 (hm.below hB) p)
 obtain ⟨⟨A0, c0, rfl, p0, q0⟩, ⟨A1, c1, rfl, p1, q1⟩, ⟨A2, c2, rfl, p2, q2⟩, ⟨A3, c3, rfl, p3, q3⟩, ⟨A4, c4, rfl, p4, q4⟩⟩ := hm
 have ev := h.v
 have el := h.l
 obtain ⟨N, eN⟩ : ∃ N, t.ks.length = N := ⟨_, rfl⟩
 obtain ⟨M3, e3⟩ : ∃ N, t.ps.length = N := ⟨_, rfl⟩
 obtain ⟨M4, e4⟩ : ∃ N, t.ms.length = N := ⟨_, rfl⟩
 rw [eN] at ev el p0 q0
 have HE := Aside0.mk (And.intro eN (And.intro ev (And.intro el (And.intro e3 e4))))
 have HQ := Aside0.mk (And.intro p0 q0)
 rw [ev, el, eN, e3, e4] at qu HM ⊢
 obtain ⟨PL, ePL⟩ : ∃ PL, plc t.ks (fun k => kpU (T.L p) (T.L k)) = PL := ⟨_, rfl⟩
 have HPL := Aside0.mk ePL
 rw [ePL] at qu ⊢
 obtain ⟨G, eG⟩ : ∃ G, PL.length = G := ⟨_, rfl⟩
 rw [eG]
 have HG := Aside0.mk eG
 clear h hag hf hl p0 p1 p2 p3 p4 q0 q1 q2 q3 q4 ev el eN e3 e4 ePL eG
 go_enter Try.func56, Try.ntmps56
 go_wp2_with fail
 go_at_call 24
 have HB0 := Aside0.mk ((((Below.refl w.heap.size w).alloc (Nat.le_refl _) (Obj.cells #[.slice A0 N c0, .slice A1 N c1, .slice A2 N c2, .slice A3 M3 c3, .slice A4 M4 c4] 28)).alloc (by simp) (Obj.cells #[.slice none 0 0, .slice none 0 0, .slice none 0 0, .slice none 0 0, .slice none 0 0] 28)).alloc (by simp; omega) (Obj.cells #[.slice A0 N c0, .slice A1 N c1, .slice A2 N c2, .slice A3 M3 c3, .slice A4 M4 c4] 28))
 have HU0 : Aside0 ((((w.alloc (Obj.cells #[.slice A0 N c0, .slice A1 N c1, .slice A2 N c2, .slice A3 M3 c3, .slice A4 M4 c4] 28)).alloc (Obj.cells #[.slice none 0 0, .slice none 0 0, .slice none 0 0, .slice none 0 0, .slice none 0 0] 28)).alloc (Obj.cells #[.slice A0 N c0, .slice A1 N c1, .slice A2 N c2, .slice A3 M3 c3, .slice A4 M4 c4] 28)).heap[w.heap.size]? = some (Obj.cells #[.slice A0 N c0, .slice A1 N c1, .slice A2 N c2, .slice A3 M3 c3, .slice A4 M4 c4] 28) ∧ (((w.alloc (Obj.cells #[.slice A0 N c0, .slice A1 N c1, .slice A2 N c2, .slice A3 M3 c3, .slice A4 M4 c4] 28)).alloc (Obj.cells #[.slice none 0 0, .slice none 0 0, .slice none 0 0, .slice none 0 0, .slice none 0 0] 28)).alloc (Obj.cells #[.slice A0 N c0, .slice A1 N c1, .slice A2 N c2, .slice A3 M3 c3, .slice A4 M4 c4] 28)).heap[w.heap.size + 1]? = some (Obj.cells #[.slice none 0 0, .slice none 0 0, .slice none 0 0, .slice none 0 0, .slice none 0 0] 28) ∧ (((w.alloc (Obj.cells #[.slice A0 N c0, .slice A1 N c1, .slice A2 N c2, .slice A3 M3 c3, .slice A4 M4 c4] 28)).alloc (Obj.cells #[.slice none 0 0, .slice none 0 0, .slice none 0 0, .slice none 0 0, .slice none 0 0] 28)).alloc (Obj.cells #[.slice A0 N c0, .slice A1 N c1, .slice A2 N c2, .slice A3 M3 c3, .slice A4 M4 c4] 28)).heap[w.heap.size + 1 + 1]? = some (Obj.cells #[.slice A0 N c0, .slice A1 N c1, .slice A2 N c2, .slice A3 M3 c3, .slice A4 M4 c4] 28)) := ⟨(Below.heap_alloc _ _ _ (by simp; omega)).trans ((Below.heap_alloc _ _ _ (by simp)).trans (World.alloc_heap_new w _)), by
   refine (Below.heap_alloc _ _ _ (by simp)).trans ?_
   have := World.alloc_heap_new (w.alloc (Obj.cells #[.slice A0 N c0, .slice A1 N c1, .slice A2 N c2, .slice A3 M3 c3, .slice A4 M4 c4] 28)) (Obj.cells #[.slice none 0 0, .slice none 0 0, .slice none 0 0, .slice none 0 0, .slice none 0 0] 28)
   rwa [World.size_alloc] at this, by
   have := World.alloc_heap_new ((w.alloc (Obj.cells #[.slice A0 N c0, .slice A1 N c1, .slice A2 N c2, .slice A3 M3 c3, .slice A4 M4 c4] 28)).alloc (Obj.cells #[.slice none 0 0, .slice none 0 0, .slice none 0 0, .slice none 0 0, .slice none 0 0] 28)) (Obj.cells #[.slice A0 N c0, .slice A1 N c1, .slice A2 N c2, .slice A3 M3 c3, .slice A4 M4 c4] 28)
   rwa [World.size_alloc, World.size_alloc] at this⟩
 refine (qu.out _ HB0.out).mono ?_
 rintro e w1 ⟨Ap, cp, rfl, hpp, hb⟩
 have hil : (ints PL).length = G := by rw [show (ints PL).length = PL.length by simp [ints]]; exact HG.out
 rw [hil] at hpp ⊢
 have H1 := Aside0.mk (And.intro hpp hb)
 have HU1 := Aside0.mk (And.intro ((hb.block _ (Array.getElem?_eq_some_iff.1 HU0.out.1).1).trans HU0.out.1) (And.intro ((hb.block _ (Array.getElem?_eq_some_iff.1 HU0.out.2.1).1).trans HU0.out.2.1) ((hb.block _ (Array.getElem?_eq_some_iff.1 HU0.out.2.2).1).trans HU0.out.2.2)))
 have HB1 := Aside0.mk (T.belowAt HB0.out hb)
 have hGN : G ≤ N := by have := plc_len t.ks (fun k => kpU (T.L p) (T.L k)); rw [HPL.out, HG.out, HE.out.1] at this; exact this
 have hNl : N < 100000000000 := by have := HH.out.2.2.2; rwa [HE.out.1] at this
 clear hpp hb hil qu HB0 HU0
 go_wp2_with fail
 go_loopg [2, 12, 19] (G + 1) (fun kq v2 v12 v19 W => ∃ (i : Nat) (nxi : Int) (tj : Rt) (E0 E1 E2 E3 E4 : Option Addr) (y0 y1 y2 y3 y4 g0 g1 g2 g3 g4 : Nat), v2 = .int .i64 nxi ∧ v19 = .int .i64 (i : Int) ∧ Aside0 (i + kq = G + 1 ∧ i ≤ G) ∧ Aside0 (RokP tj ∧ AgreeF (lessF f t.ks PL i) tj ∧ tj.ks.length ≤ N) ∧ Aside0 (W.heap[w.heap.size]? = some (Obj.cells #[.slice A0 N c0, .slice A1 N c1, .slice A2 N c2, .slice A3 M3 c3, .slice A4 M4 c4] 28) ∧ W.heap[w.heap.size + 1]? = some (Obj.cells #[.slice none 0 0, .slice none 0 0, .slice none 0 0, .slice none 0 0, .slice none 0 0] 28) ∧ W.heap[w.heap.size + 1 + 1]? = some (.cells #[.slice E0 y0 g0, .slice E1 y1 g1, .slice E2 y2 g2, .slice E3 y3 g3, .slice E4 y4 g4] 28 (0, 0))) ∧ Aside0 (w1.heap.size ≤ W.heap.size) ∧ Aside0 (Below w.heap.size w W) ∧ Aside0 (∀ k, k < w1.heap.size → k ≠ w.heap.size + 1 + 1 → W.heap[k]? = w1.heap[k]?) ∧ Aside0 (RtOff (fun k => w.heap.size ≤ k ∧ k ≤ w.heap.size + 1 + 1) W tj (.slice E0 y0 g0) (.slice E1 y1 g1) (.slice E2 y2 g2) (.slice E3 y3 g3) (.slice E4 y4 g4)))
 case atStart =>
  refine ⟨0, nx, t, _, _, _, _, _, _, _, _, _, _, _, _, _, _, _, rfl, rfl, ⟨by omega⟩, ⟨HH.out.1, HH.out.2.1.imp (fun q => by simp [lessF]), by rw [HE.out.1]; exact Nat.le_refl _⟩, HU1, ⟨Nat.le_refl _⟩, HB1, ⟨fun k _ _ => rfl⟩, ⟨fun w2 hs hk => ?_⟩⟩
  exact HM.out.off w2 (Nat.le_trans HB1.out.size hs) (fun k h1 _ => (hk k (Nat.lt_of_lt_of_le h1 HB1.out.size) (fun h => by omega)).trans (HB1.out.block k h1))
 case round =>
  obtain ⟨i, nxi, tj, E0, E1, E2, E3, E4, y0, y1, y2, y3, y4, g0, g1, g2, g3, g4, rfl, rfl, HQi, HT, HU, HS1, HB, HK1, HO⟩ := hrel
  by_cases hi : i < G
  ·have hiP : i < PL.length := by rw [HG.out]; exact hi
   obtain ⟨kk, ekk⟩ : ∃ kk, PL[i] = kk := ⟨_, rfl⟩
   have hkk : kk < N := by
    have := plc_mem (xs := t.ks) (p := fun k => kpU (T.L p) (T.L k)) (i := kk) (by rw [HPL.out, ← ekk]; exact List.getElem_mem _)
    rwa [HE.out.1] at this
   have hbuw1 : w.heap.size + 1 + 1 < w1.heap.size := (Array.getElem?_eq_some_iff.1 HU1.out.2.2).1
   have hbsz : w.heap.size + 1 + 1 < wr.heap.size := (Array.getElem?_eq_some_iff.1 HU.out.2.2).1
   have hrob := H1.out.1 wr (fun k h1 h2 => HK1.out k h2 (by simp at h1; omega))
   obtain ⟨adp, eAp, hap1, hap2⟩ := int_at hrob i (by rw [show (ints PL).length = PL.length by simp [ints]]; exact hiP)
   obtain ⟨ad, eA0, hadb, hat⟩ := str_at HQ.out.2 kk (by rw [HE.out.1]; exact hkk)
   have erd : rd (ints PL) (i : Int) = (kk : Int) := by
    rw [← ekk]
    simp [rd, ints, List.getD_eq_getElem?_getD, List.getElem?_map, List.getElem?_eq_getElem hiP]
   have rci := hap2 wr rfl
   rw [erd] at rci
   have hga : (gd t.ks kk).size < 4611686018427387904 := HH.out.1.sk _ (gd_mem (by rw [HE.out.1]; exact hkk))
   have htl : tj.ks.length < 100000000000 := by have := HT.out.2.2; omega
   have qd := Aside0.mk (fun W (hW : Below wr.heap.size wr W) => delRtC (fun k => w.heap.size ≤ k ∧ k ≤ w.heap.size + 1 + 1) W tj HT.out.1 _ _ _ _ _ ((HO.out.below hW).imp (fun k _ h => .inl h)) (gd t.ks kk) nxi hga htl)
   have hwb : wr.heap[ad.block]? = w.heap[ad.block]? := HB.out.block _ hadb
   have rcs := hat wr hwb
   obtain ⟨key, ekey⟩ : ∃ key, gd t.ks kk = key := ⟨_, rfl⟩
   rw [ekey] at rcs qd
   have bu := HU.out.2.2
   have x0 : wr.cell? ⟨w.heap.size + 1 + 1, 0, none⟩ = some (.slice E0 y0 g0) := by rw [blk_cell bu]; rfl
   have x1 : wr.cell? ⟨w.heap.size + 1 + 1, 1, none⟩ = some (.slice E1 y1 g1) := by rw [blk_cell bu]; rfl
   have x2 : wr.cell? ⟨w.heap.size + 1 + 1, 2, none⟩ = some (.slice E2 y2 g2) := by rw [blk_cell bu]; rfl
   have x3 : wr.cell? ⟨w.heap.size + 1 + 1, 3, none⟩ = some (.slice E3 y3 g3) := by rw [blk_cell bu]; rfl
   have x4 : wr.cell? ⟨w.heap.size + 1 + 1, 4, none⟩ = some (.slice E4 y4 g4) := by rw [blk_cell bu]; rfl
   have tk : wr.cell? ⟨w.heap.size, 0, none⟩ = some (.slice (some ad) N c0) := by rw [blk_cell HU.out.1, ← eA0]; rfl
   have hadn : (ad.add kk).block < w.heap.size := by rw [add_block]; exact hadb
   have ekk2 : PL[i]? = some kk := by rw [List.getElem?_eq_getElem hiP, ekk]
   have HX := Aside0.mk (And.intro hadn (And.intro ekk2 (And.intro trivial (And.intro hkk (And.intro ekey (And.intro hbuw1 hbsz))))))
   subst eA0
   subst eAp
   have hiI : (i : Int) < (G : Int) := by omega
   have hkkI : (kk : Int) < (N : Int) := by omega
   have HBd := Aside0.mk (below_drew (Below.refl wr.heap.size wr))
   clear hrob hap1 hap2 hat hwb hga htl bu erd hadn ekk ekk2 hiP ekey hbuw1 hbsz
   go_wp2_with fail
   refine start_ (n := 15) (S := (fun w' => w'.cell? ⟨w.heap.size + 1 + 1, 0, none⟩ = some (.slice E0 y0 g0) ∧ w'.cell? ⟨w.heap.size + 1 + 1, 1, none⟩ = some (.slice E1 y1 g1) ∧ w'.cell? ⟨w.heap.size + 1 + 1, 2, none⟩ = some (.slice E2 y2 g2) ∧ w'.cell? ⟨w.heap.size + 1 + 1, 3, none⟩ = some (.slice E3 y3 g3) ∧ w'.cell? ⟨w.heap.size + 1 + 1, 4, none⟩ = some (.slice E4 y4 g4) ∧ w'.cell? ⟨w.heap.size, 0, none⟩ = some (.slice (some ad) N c0) ∧ w'.cell? (ad.add kk) = some (.string key))) (ds := [13]) #[false, false, false, false, false, false, false, false, false, false, false, false, false, false, false] (by kernel_rfl) rfl rfl ⟨x0, x1, x2, x3, x4, tk, rcs⟩ (fun hHeld => ?_); refine with_tabW trim_tab6 trim_bits6 (fun HT_ HW_ => ?_)
   refine pure_ (i := 1) (N := some 25) (v := ?_) (a' := ?_) #[false, true, false, false, false, false, false, false, false, false, false, false, false, false, false] rfl rfl (any_of HT_.out (by kernel_rfl)) (fun _ _ _ h => h) (Or.inl ⟨by rfl, ?_⟩) ?_ ?_
   rotate_left
   ·intro w'
    go_simp
    with_reducible rfl
   rotate_left
   ·simp only [Act.put, List.setIfInBounds_toArray, List.set_cons_zero, List.set_cons_succ, i64_w, i32_w]
    rfl
   refine pure_ (i := 3) (N := some 27) (v := ?_) (a' := ?_) #[false, true, false, true, false, false, false, false, false, false, false, false, false, false, false] rfl rfl (any_of HT_.out (by kernel_rfl)) (fun _ _ _ h => h) (Or.inl ⟨by rfl, ?_⟩) ?_ ?_
   rotate_left
   ·intro w'
    go_simp
    with_reducible rfl
   rotate_left
   ·simp only [Act.put, List.setIfInBounds_toArray, List.set_cons_zero, List.set_cons_succ, i64_w, i32_w]
    rfl
   refine pure_ (i := 6) (N := some 30) (v := ?_) (a' := ?_) #[false, true, false, true, false, false, true, false, false, false, false, false, false, false, false] rfl rfl (any_of HT_.out (by kernel_rfl)) (fun _ _ _ h => h) (Or.inl ⟨by rfl, ?_⟩) ?_ ?_
   rotate_left
   ·intro w'
    go_simp
    with_reducible rfl
   rotate_left
   ·simp only [Act.put, List.setIfInBounds_toArray, List.set_cons_zero, List.set_cons_succ, i64_w, i32_w]
    rfl
   refine take_ (i := 0) (N := some 24) (v := ?_) (a' := ?_) #[true, true, false, true, false, false, true, false, false, false, false, false, false, false, false] rfl rfl (take_ofW HT_.out HW_.out (by kernel_rfl)) (fun _ _ _ h => h) (Or.inl ⟨by rfl, ?_⟩) hHeld ?_ ?_
   rotate_left
   ·rintro w' ⟨s0, s1, s2, s3, s4, s5, s6⟩
    go_simp
    with_reducible rfl
   rotate_left
   ·simp only [Act.put, List.setIfInBounds_toArray, List.set_cons_zero, List.set_cons_succ, i64_w, i32_w]
    rfl
   refine take_ (i := 2) (N := some 26) (v := ?_) (a' := ?_) #[true, true, true, true, false, false, true, false, false, false, false, false, false, false, false] rfl rfl (take_ofW HT_.out HW_.out (by kernel_rfl)) (fun _ _ _ h => h) (Or.inl ⟨by rfl, ?_⟩) hHeld ?_ ?_
   rotate_left
   ·rintro w' ⟨s0, s1, s2, s3, s4, s5, s6⟩
    go_simp
    with_reducible rfl
   rotate_left
   ·simp only [Act.put, List.setIfInBounds_toArray, List.set_cons_zero, List.set_cons_succ, i64_w, i32_w]
    rfl
   refine pure_ (i := 4) (N := some 28) (v := ?_) (a' := ?_) #[true, true, true, true, true, false, true, false, false, false, false, false, false, false, false] rfl rfl (any_of HT_.out (by kernel_rfl)) (fun _ _ _ h => h) (Or.inl ⟨by rfl, ?_⟩) ?_ ?_
   rotate_left
   ·intro w'
    go_simp
    with_reducible rfl
   rotate_left
   ·simp only [Act.put, List.setIfInBounds_toArray, List.set_cons_zero, List.set_cons_succ, i64_w, i32_w]
    rfl
   refine take_ (i := 5) (N := some 29) (v := ?_) (a' := ?_) #[true, true, true, true, true, true, true, false, false, false, false, false, false, false, false] rfl rfl (take_ofW HT_.out HW_.out (by kernel_rfl)) (fun _ _ _ h => h) (Or.inl ⟨by rfl, ?_⟩) hHeld ?_ ?_
   rotate_left
   ·rintro w' ⟨s0, s1, s2, s3, s4, s5, s6⟩
    go_simp
    with_reducible rfl
   rotate_left
   ·simp only [Act.put, List.setIfInBounds_toArray, List.set_cons_zero, List.set_cons_succ, i64_w, i32_w]
    rfl
   refine one_ (i := 7) (N := some 31) #[true, true, true, true, true, true, true, true, false, false, false, false, false, false, false] rfl rfl (one_of HT_.out (by kernel_rfl)) (by decide) (fun K hK => ?_)
   refine goes_ Try.func40 (by kernel_rfl) rfl #[.agg #[.slice E0 y0 g0, .slice E1 y1 g1, .slice E2 y2 g2, .slice E3 y3 g3, .slice E4 y4 g4], .string key, .int .i64 nxi] (by rfl) rfl rfl (by (try simp only [List.map_toArray, List.map_cons, List.map_nil]); first | done | rfl) ?_
   refine (qd.out _ HBd.out).mono ?_
   rintro e w4 ⟨t', old, b', nx', u0, u1, u2, u3, u4, rfl, ho', hk', hd', hb'⟩
   obtain ⟨⟨B0, k0, d0, rfl⟩, ⟨B1, k1, d1, rfl⟩, ⟨B2, k2, d2, rfl⟩, ⟨B3, k3, d3, rfl⟩, ⟨B4, k4, d4, rfl⟩⟩ := ho'.here.forms
   have H4 := Aside0.mk (And.intro ho' (And.intro hk' (And.intro hd' hb')))
   have t5 := (T.Kept.of hb').cell tk
   have s5 := (T.Kept.of hb').cell rcs
   have bu4 := (hb'.block _ (Array.getElem?_eq_some_iff.1 HU.out.2.2).1).trans HU.out.2.2
   have z0 : w4.cell? ⟨w.heap.size + 1 + 1, 0, none⟩ = some (.slice E0 y0 g0) := by rw [blk_cell bu4]; rfl
   have z1 : w4.cell? ⟨w.heap.size + 1 + 1, 1, none⟩ = some (.slice E1 y1 g1) := by rw [blk_cell bu4]; rfl
   have z2 : w4.cell? ⟨w.heap.size + 1 + 1, 2, none⟩ = some (.slice E2 y2 g2) := by rw [blk_cell bu4]; rfl
   have z3 : w4.cell? ⟨w.heap.size + 1 + 1, 3, none⟩ = some (.slice E3 y3 g3) := by rw [blk_cell bu4]; rfl
   have z4 : w4.cell? ⟨w.heap.size + 1 + 1, 4, none⟩ = some (.slice E4 y4 g4) := by rw [blk_cell bu4]; rfl
   have f0 : w4.frozen? ⟨w.heap.size + 1 + 1, 0, none⟩ = false := blk_frozen bu4 0
   have f1 : w4.frozen? ⟨w.heap.size + 1 + 1, 1, none⟩ = false := blk_frozen bu4 1
   have f2 : w4.frozen? ⟨w.heap.size + 1 + 1, 2, none⟩ = false := blk_frozen bu4 2
   have f3 : w4.frozen? ⟨w.heap.size + 1 + 1, 3, none⟩ = false := blk_frozen bu4 3
   have f4 : w4.frozen? ⟨w.heap.size + 1 + 1, 4, none⟩ = false := blk_frozen bu4 4
   have HU4 := Aside0.mk bu4
   clear ho' hk' hd' hb' bu4
   refine ⟨_, rfl, ?_⟩
   clear hHeld
   refine hK.out _ _ ⟨z0, z1, z2, z3, z4, t5, s5⟩ (fun hHeld => ?_)
   clear hK K
   refine norm_ (a' := ?_) ?_ ?_
   rotate_left
   ·show Act.put _ (some 31) _ = _
    simp only [Act.put, List.setIfInBounds_toArray, List.set_cons_zero, List.set_cons_succ, i64_w, i32_w]
    rfl
   refine pure_ (i := 8) (N := some 23) (v := ?_) (a' := ?_) #[true, true, true, true, true, true, true, true, true, false, false, false, false, false, false] rfl rfl (any_of HT_.out (by kernel_rfl)) (fun _ _ _ h => h) (Or.inl ⟨by rfl, ?_⟩) ?_ ?_
   rotate_left
   ·intro w'
    go_simp
    with_reducible rfl
   rotate_left
   ·simp only [Act.put, List.setIfInBounds_toArray, List.set_cons_zero, List.set_cons_succ, i64_w, i32_w]
    rfl
   refine pure_ (i := 9) (N := some 32) (v := ?_) (a' := ?_) #[true, true, true, true, true, true, true, true, true, true, false, false, false, false, false] rfl rfl (any_of HT_.out (by kernel_rfl)) (fun _ _ _ h => h) (Or.inl ⟨by rfl, ?_⟩) ?_ ?_
   rotate_left
   ·intro w'
    go_simp
    with_reducible rfl
   rotate_left
   ·simp only [Act.put, List.setIfInBounds_toArray, List.set_cons_zero, List.set_cons_succ, i64_w, i32_w]
    rfl
   refine pure_ (i := 10) (N := some 33) (v := ?_) (a' := ?_) #[true, true, true, true, true, true, true, true, true, true, true, false, false, false, false] rfl rfl (any_of HT_.out (by kernel_rfl)) (fun _ _ _ h => h) (Or.inl ⟨by rfl, ?_⟩) ?_ ?_
   rotate_left
   ·intro w'
    go_simp
    with_reducible rfl
   rotate_left
   ·simp only [Act.put, List.setIfInBounds_toArray, List.set_cons_zero, List.set_cons_succ, i64_w, i32_w]
    rfl
   refine pure_ (i := 11) (N := some 34) (v := ?_) (a' := ?_) #[true, true, true, true, true, true, true, true, true, true, true, true, false, false, false] rfl rfl (any_of HT_.out (by kernel_rfl)) (fun _ _ _ h => h) (Or.inl ⟨by rfl, ?_⟩) ?_ ?_
   rotate_left
   ·intro w'
    go_simp
    with_reducible rfl
   rotate_left
   ·simp only [Act.put, List.setIfInBounds_toArray, List.set_cons_zero, List.set_cons_succ, i64_w, i32_w]
    rfl
   refine pure_ (i := 12) (N := some 35) (v := ?_) (a' := ?_) #[true, true, true, true, true, true, true, true, true, true, true, true, true, false, false] rfl rfl (any_of HT_.out (by kernel_rfl)) (fun _ _ _ h => h) (Or.inl ⟨by rfl, ?_⟩) ?_ ?_
   rotate_left
   ·intro w'
    go_simp
    with_reducible rfl
   rotate_left
   ·simp only [Act.put, List.setIfInBounds_toArray, List.set_cons_zero, List.set_cons_succ, i64_w, i32_w]
    rfl
   refine last_ (i := 13) (N := none) #[true, true, true, true, true, true, true, true, true, true, true, true, true, true, false] rfl rfl (one_of HT_.out (by kernel_rfl)) (by decide) (fun K hK => ?_)
   refine skip_ (w1 := ?_) (by rfl) rfl ?_ ?_
   rotate_left
   ·go_simp
    rfl
   refine hK.out _ _ ?_
   clear hK K
   refine pure_ (i := 14) (N := some 2) (v := ?_) (a' := ?_) #[true, true, true, true, true, true, true, true, true, true, true, true, true, true, true] rfl rfl (any_of HT_.out (by kernel_rfl)) (fun _ _ _ h => h) (Or.inl ⟨by rfl, ?_⟩) ?_ ?_
   rotate_left
   ·intro w'
    go_simp
    with_reducible rfl
   rotate_left
   ·simp only [Act.put, List.setIfInBounds_toArray, List.set_cons_zero, List.set_cons_succ, i64_w, i32_w]
    rfl
   refine done_ (done_of HT_.out (by kernel_rfl)) ?_
   clear hHeld x0 x1 x2 x3 x4 tk rcs t5 s5 z0 z1 z2 z3 z4 f0 f1 f2 f3 f4 HT_ HW_
   obtain ⟨W5, e5⟩ : ∃ W5, V.set5 w4 (w.heap.size + 1 + 1) (.slice B0 k0 d0) (.slice B1 k1 d1) (.slice B2 k2 d2) (.slice B3 k3 d3) (.slice B4 k4 d4) = W5 := ⟨_, rfl⟩
   have e6 : ((((w4.setCell { block := w.heap.size + 1 + 1, off := 0 } (.slice B0 k0 d0)).setCell { block := w.heap.size + 1 + 1, off := 1 } (.slice B1 k1 d1)).setCell { block := w.heap.size + 1 + 1, off := 2 } (.slice B2 k2 d2)).setCell { block := w.heap.size + 1 + 1, off := 3 } (.slice B3 k3 d3)).setCell { block := w.heap.size + 1 + 1, off := 4 } (.slice B4 k4 d4) = W5 := e5
   have h5 : Aside0 (W5.heap[w.heap.size + 1 + 1]? = some (.cells #[.slice B0 k0 d0, .slice B1 k1 d1, .slice B2 k2 d2, .slice B3 k3 d3, .slice B4 k4 d4] 28 (0, 0)) ∧ (∀ k, k ≠ w.heap.size + 1 + 1 → W5.heap[k]? = w4.heap[k]?) ∧ W5.heap.size = w4.heap.size) := ⟨by rw [← e5]; exact V.set5_at HU4.out _ _ _ _ _, fun k hk => by rw [← e5]; exact V.set5_far _ _ _ _ _ _ _ k hk, by rw [← e5]; simp [V.set5, T.size_setCell]⟩
   have hb4 : Below wr.heap.size wr w4 := T.belowAt HBd.out H4.out.2.2.2
   have hb5 : Aside0 (Below w.heap.size w W5) := ⟨by rw [← e5]; exact V.set5_below (T.belowAt HB.out hb4) (by omega) _ _ _ _ _⟩
   have HB4 := Aside0.mk hb4
   rw [e6]
   clear e5 e6 hb4
   go_wp2_with fail
   go_roundg (G - i)
   case measure => have := HQi.out; omega
   case rel =>
    have hlt := HB4.out.size
    have hh := HX.out
    have hs2 : wr.drew.heap.size = wr.heap.size := rfl
    refine ⟨i + 1, nx', t', B0, B1, B2, B3, B4, k0, k1, k2, k3, k4, d0, d1, d2, d3, d4, rfl, ?_, ⟨by have := HQi.out; omega⟩, ⟨H4.out.2.1, ?_, ?_⟩, ⟨?_, ?_, h5.out.1⟩, ⟨by rw [h5.out.2.2]; exact Nat.le_trans HS1.out hlt⟩, hb5, ⟨fun k h1 h2 => ?_⟩, ⟨?_⟩⟩
    ·first | rfl | (congr 1; omega) | (simp; done) | (rw [show wrap64 ((i : Int) + 1) = ((i + 1 : Nat) : Int) by unfold wrap64; omega])
    ·have hiP : i < PL.length := (List.getElem?_eq_some_iff.1 hh.2.1).1
     have ekk : PL[i] = kk := (List.getElem?_eq_some_iff.1 hh.2.1).2
     refine (agreeF_del HT.out.1.toRok HT.out.2.1 H4.out.2.2.1 (fun q v hv => ?_)).imp (fun q => ?_)
     ·unfold lessF at hv
      split at hv
      ·cases hv
      ·exact HH.out.2.2.1 q v hv
     ·rw [lessF_step f t.ks PL i hiP, ekk, hh.2.2.2.2.1]
    ·have hlen : t'.ks.length ≤ tj.ks.length := by
      rcases H4.out.2.2.1 with ⟨-, -, e, -⟩ | ⟨n, P, M, -, hn, -, -, e, -⟩
      ·rw [e]; exact Nat.le_refl _
      ·rw [e]
       show (cutAt tj.ks n).length ≤ _
       rw [cutAt_len _ _ hn]; omega
     exact Nat.le_trans hlen HT.out.2.2
    ·exact (h5.out.2.1 _ (by omega)).trans ((HB4.out.block _ (by omega)).trans HU.out.1)
    ·exact (h5.out.2.1 _ (by omega)).trans ((HB4.out.block _ (by omega)).trans HU.out.2.1)
    ·exact (h5.out.2.1 k h2).trans ((HB4.out.block k (by have := (Array.getElem?_eq_some_iff.1 HU1.out.2.2).1; have h9 : w1.heap.size ≤ wr.heap.size := HS1.out; omega)).trans (HK1.out k h1 h2))
    ·exact RtOff.set H4.out.1 (fun k hk => ⟨hk, by rw [hs2]; omega⟩) (b := w.heap.size + 1 + 1) ⟨by omega, by omega⟩ h5.out.2.2 h5.out.2.1
  ·have hin : i = G := by have := HQi.out; omega
   subst hin
   have bu := HU.out.2.2
   have br := HU.out.2.1
   have x0 : wr.cell? ⟨w.heap.size + 1 + 1, 0, none⟩ = some (.slice E0 y0 g0) := by rw [blk_cell bu]; rfl
   have x1 : wr.cell? ⟨w.heap.size + 1 + 1, 1, none⟩ = some (.slice E1 y1 g1) := by rw [blk_cell bu]; rfl
   have x2 : wr.cell? ⟨w.heap.size + 1 + 1, 2, none⟩ = some (.slice E2 y2 g2) := by rw [blk_cell bu]; rfl
   have x3 : wr.cell? ⟨w.heap.size + 1 + 1, 3, none⟩ = some (.slice E3 y3 g3) := by rw [blk_cell bu]; rfl
   have x4 : wr.cell? ⟨w.heap.size + 1 + 1, 4, none⟩ = some (.slice E4 y4 g4) := by rw [blk_cell bu]; rfl
   have z0 : wr.cell? ⟨w.heap.size + 1, 0, none⟩ = some (.slice none 0 0) := by rw [blk_cell br]; rfl
   have z1 : wr.cell? ⟨w.heap.size + 1, 1, none⟩ = some (.slice none 0 0) := by rw [blk_cell br]; rfl
   have z2 : wr.cell? ⟨w.heap.size + 1, 2, none⟩ = some (.slice none 0 0) := by rw [blk_cell br]; rfl
   have z3 : wr.cell? ⟨w.heap.size + 1, 3, none⟩ = some (.slice none 0 0) := by rw [blk_cell br]; rfl
   have z4 : wr.cell? ⟨w.heap.size + 1, 4, none⟩ = some (.slice none 0 0) := by rw [blk_cell br]; rfl
   have f0 : wr.frozen? ⟨w.heap.size + 1, 0, none⟩ = false := blk_frozen br 0
   have f1 : wr.frozen? ⟨w.heap.size + 1, 1, none⟩ = false := blk_frozen br 1
   have f2 : wr.frozen? ⟨w.heap.size + 1, 2, none⟩ = false := blk_frozen br 2
   have f3 : wr.frozen? ⟨w.heap.size + 1, 3, none⟩ = false := blk_frozen br 3
   have f4 : wr.frozen? ⟨w.heap.size + 1, 4, none⟩ = false := blk_frozen br 4
   clear bu br
   go_wp2_with fail
   clear x0 x1 x2 x3 x4 z0 z1 z2 z3 z4 f0 f1 f2 f3 f4
   have hz6 := V.set5_at HU.out.2.1 (.slice E0 y0 g0) (.slice E1 y1 g1) (.slice E2 y2 g2) (.slice E3 y3 g3) (.slice E4 y4 g4)
   obtain ⟨W6, e6⟩ : ∃ W6, V.set5 wr (w.heap.size + 1) (.slice E0 y0 g0) (.slice E1 y1 g1) (.slice E2 y2 g2) (.slice E3 y3 g3) (.slice E4 y4 g4) = W6 := ⟨_, rfl⟩
   have hfar6 : ∀ k, k ≠ w.heap.size + 1 → W6.heap[k]? = wr.heap[k]? := fun k hk => by rw [← e6]; exact V.set5_far _ _ _ _ _ _ _ k hk
   have hsz6 : W6.heap.size = wr.heap.size := by rw [← e6]; simp [V.set5, T.size_setCell]
   have hb6 : Below w.heap.size w W6 := by rw [← e6]; exact V.set5_below HB.out (by omega) _ _ _ _ _
   rw [e6] at hz6
   have e7 : ((((wr.setCell { block := w.heap.size + 1, off := 0 } (.slice E0 y0 g0)).setCell { block := w.heap.size + 1, off := 1 } (.slice E1 y1 g1)).setCell { block := w.heap.size + 1, off := 2 } (.slice E2 y2 g2)).setCell { block := w.heap.size + 1, off := 3 } (.slice E3 y3 g3)).setCell { block := w.heap.size + 1, off := 4 } (.slice E4 y4 g4) = W6 := e6
   rw [e7]
   have q0 : W6.cell? ⟨w.heap.size + 1, 0, none⟩ = some (.slice E0 y0 g0) := by rw [blk_cell hz6]; rfl
   have q1 : W6.cell? ⟨w.heap.size + 1, 1, none⟩ = some (.slice E1 y1 g1) := by rw [blk_cell hz6]; rfl
   have q2 : W6.cell? ⟨w.heap.size + 1, 2, none⟩ = some (.slice E2 y2 g2) := by rw [blk_cell hz6]; rfl
   have q3 : W6.cell? ⟨w.heap.size + 1, 3, none⟩ = some (.slice E3 y3 g3) := by rw [blk_cell hz6]; rfl
   have q4 : W6.cell? ⟨w.heap.size + 1, 4, none⟩ = some (.slice E4 y4 g4) := by rw [blk_cell hz6]; rfl
   refine bodyPost_ret (v := .tuple #[.agg #[.slice E0 y0 g0, .slice E1 y1 g1, .slice E2 y2 g2, .slice E3 y3 g3, .slice E4 y4 g4], .int .i64 (i : Nat), .int .i64 nxi]) (by simp [results, Try.results56, go_sem, q0, q1, q2, q3, q4]) rfl ?_
   refine ⟨tj, nxi, _, _, _, _, _, rfl, (RtOff.set HO.out (fun k hk => hk) (b := w.heap.size + 1) ⟨by omega, by omega⟩ hsz6 hfar6 : RtOff (fun k => w.heap.size ≤ k ∧ k ≤ w.heap.size + 1 + 1) W6 tj _ _ _ _ _).here, HT.out.1, HT.out.2.1.imp (fun q => ?_), HT.out.2.2, hb6⟩
   have h9 := lessF_end HH.out.2.1 p HH.out.2.2.1 q
   rw [HPL.out, HG.out] at h9
   exact h9.symm
end Go.Proofs.Ytjhgknagmiekeaa.N
set_option linter.unusedVariables false
set_option linter.unusedSimpArgs false
namespace Go.Proofs.Ytjhgknagmiekeaa.N
open Go.RowKit Go.Proofs.Ytjhgknagmiekeaa.K Go.Proofs.YtjhgknagmiekeaaW.PrintWords Go.Proofs.YtjhgknagmiekeaaW.PrintLast
open Go.Proofs.Ytjhgknagmiekeaa.T (Nd All valT findT IntVals Fine Tr)
theorem rokP0 : RokP rt0 := by
  refine ⟨rok0, by unfold Rise rt0; simp, fun x => ?_⟩
  show x ∈ [(⟨#[]⟩ : ByteArray)] ↔ _
  rw [List.mem_singleton]
  unfold PathOf
  constructor
  · intro h; exact .inl (by rw [h])
  · rintro (h | ⟨j, h, e⟩ | ⟨j, h, e⟩)
    · exact T.L_inj h
    · exact absurd h (Nat.not_lt_zero _)
    · exact absurd h (Nat.not_lt_zero _)
def InsD (t t' : Rt) (a : ByteArray) (v nx nx' old : Int) (b : Bool) : Prop := ∃ n P M, n ≤ t.ks.length ∧ (b = true → n < t.ks.length ∧ gd t.ks n = a) ∧ (b = true ↔ a ∈ t.ks) ∧ Cut t.ks a n n ∧ old = (if b = true then rd t.vs n else 0) ∧ t' = ⟨putAt t.ks n b a, putAt t.vs n b v, putAt t.ls n b nx, P, M⟩ ∧ MkR t.ps t.ms a P (wrap64 (nx + 1)) M nx'
theorem InsD.rt {t t' : Rt} {a : ByteArray} {v nx nx' old : Int} {b : Bool} (h : InsD t t' a v nx nx' old b) (ht : Rok t) (ht' : Rok t') : InsRt t t' a v := by
  obtain ⟨n, P, M, h1, h2, h3, h4, -, rfl, -⟩ := h
  intro root root' g1 g2 g3 g4 g5 g6
  exact agree_ins (L := []) g1.toGood g2 g3.toGood g4 ht g5 h1 h4 h2 h3 ht' g6
end Go.Proofs.Ytjhgknagmiekeaa.N
