/- joined: F3 TP17 F4 F10 TR16 TR18 F11 -/
import Derived.Test.YtjhgknagmiekeaaJQ13
import Derived.Deep.RegionHeld3
import Derived.Test.YtjhgknagmiekeaaJQ4
import Derived.Test.YtjhgknagmiekeaaJQ17
set_option linter.unusedVariables false
set_option linter.unusedSimpArgs false
namespace Go.Proofs.Ytjhgknagmiekeaa.F
open Go.RowKit Go.Lib Go.Proofs Go.ChangeMaps
open Go.Proofs.Ytjhgknagmiekeaa.T
open Go.Proofs.YtjhgknagmiekeaaW.PrintWords hiding blk_cell Kept
open Go.Proofs.Ytjhgknagmiekeaa.V (FarB farB_nd farB_nds)
theorem cntFs_take (K : Nat → Bool) : ∀ (ks : List Nd) (i : Nat) (h : i < ks.length), cntFs K (ks.take (i + 1)) = cntFs K (ks.take i) + cntF K ks[i]
  | a :: r, 0, h => by simp [cntFs]
  | a :: r, i + 1, h => by
    rw [List.take_succ_cons, List.take_succ_cons, cntFs, cntFs, cntFs_take K r i (by simpa using h)]
    simp only [List.getElem_cons_succ]
    omega
mutual
theorem cntF_le (K : Nat → Bool) : ∀ n : Nd, cntF K n ≤ cntN n
  | .mk b label leaf kids mark => by
    rw [cntF, cntN]
    have := cntFs_le K kids
    split <;> omega
theorem cntFs_le (K : Nat → Bool) : ∀ ks : List Nd, cntFs K ks ≤ cntNs ks
  | [] => by rw [cntFs, cntNs]; exact Nat.le_refl _
  | n :: r => by
    rw [cntFs, cntNs]
    have := cntF_le K n
    have := cntFs_le K r
    omega
end
set_option maxHeartbeats 2000000 in
set_option maxRecDepth 100000 in
theorem countC (K : Nat → Bool) : ∀ (N : Nat) (n : Nd) (m mb b1 b2 : Nat) (w : World), cntN n ≤ N → NdAt w n → MapP w mb m (fun x => K x = true) → w.heap[b1]? = some (.cells #[.map (some mb)] 137 (0, 0)) → w.heap[b2]? = some (.cells #[.func (.func 101) #[] #[ptr b1, ptr b2]] 139 (0, 0)) → cntN n < 4611686018427387904 →
    Calls Try.prog 101 #[ptr n.b, ptr b1, ptr b2] w fun e w' => e = .returned (.int .i64 (cntF K n : Nat)) ∧ Below w.heap.size w w' := by
  intro N
  induction N with
  | zero => intro n m mb b1 b2 w hN; exfalso; rw [cntN_eq] at hN; omega
  | succ N ih =>
    intro n m mb b1 b2 w hN hn hm h1 h2 hlt
    obtain ⟨kv, hb, hrow, hlf, hks⟩ := hn.parts
    obtain ⟨A, cap, rfl, hcell⟩ := hrow.open
    obtain ⟨c, hlook, hc0, hcm, hck⟩ := hm.look hb
    have hpl : (ptrs n.kids).length = n.kids.length := by simp [ptrs]
    obtain ⟨len, elen⟩ : ∃ len, n.kids.length = len := ⟨_, rfl⟩
    rw [hpl, elen] at hb
    have cn := cntN_eq n
    have HN := Aside0.mk (And.intro hN (And.intro cn hlt))
    have HH := Aside0.mk (And.intro hn (And.intro hm (And.intro h1 h2)))
    have HB := Aside0.mk hb
    have HL := Aside0.mk (And.intro elen hks)
    have IH := Aside0.mk ih
    have c1 : w.cell? ⟨b1, 0, none⟩ = some (.map (some mb)) := by rw [blk_cell h1]; rfl
    have k2 : w.cell? ⟨n.b, 2, none⟩ = some (.slice A len cap) := by rw [blk_cell hb]; rfl
    have hle : len ≤ 4611686018427387904 := by
      have : n.kids.length ≤ cntNs n.kids := by
        generalize n.kids = ks
        induction ks with
        | nil => simp
        | cons a r ihr => rw [cntNs, List.length_cons, cntN_eq]; omega
      omega
    have hcl := Aside0.mk hcell
    obtain ⟨nb, enb⟩ : ∃ nb, n.b = nb := ⟨_, rfl⟩
    have HNB := Aside0.mk enb
    obtain ⟨r, er⟩ : ∃ r, cntF K n = r := ⟨_, rfl⟩
    have HR := Aside0.mk er
    rw [enb] at hlook k2 HB hck ⊢
    rw [er]
    by_cases hkn : K nb = true
    · have hcp : (0 : Int) < c := hck.1 hkn
      have hr0 : r = 0 := by rw [← er, cntF_eq, enb, if_pos hkn]
      subst hr0
      clear ih hN hn hm h1 h2 hlt hrow hlf hks hb elen cn hc0 hcm hcell hpl enb hck hkn er
      unfold ptr at hlook ⊢
      go_enter Try.func101, Try.ntmps101
      go_wp2_with fail
      go_ret
      exact ⟨rfl, Below.refl _ _⟩
    · have hcp : ¬ (0 : Int) < c := fun h => hkn (hck.2 h)
      have hr1 : r = 1 + cntFs K n.kids := by rw [← er, cntF_eq, enb, if_neg hkn]
      have HR1 := Aside0.mk hr1
      clear ih hN hn hm h1 h2 hlt hrow hlf hks hb elen cn hc0 hcm hcell hpl enb hck hkn er hr1 HR
      unfold ptr at hlook ⊢
      go_enter Try.func101, Try.ntmps101
      go_wp2_with fail
      clear hlook c1 k2 hcp
      go_loopg [5, 7, 17] (len + 1) (fun kq v5 v7 v17 W => ∃ i : Nat, v5 = .int .i64 ((1 + cntFs K (n.kids.take i) : Nat) : Int) ∧ v17 = .int .i64 (i : Int) ∧ Aside0 (i + kq = len + 1 ∧ i ≤ len) ∧ Aside0 (Below w.heap.size w W))
      case atStart => exact ⟨0, by rw [List.take_zero, cntFs]; rfl, rfl, ⟨by omega⟩, ⟨Below.refl _ _⟩⟩
      case round =>
        obtain ⟨i, rfl, rfl, HQ, HW⟩ := hrel
        by_cases hlt : i < len
        · have hik : i < n.kids.length := by rw [HL.out.1]; exact hlt
          obtain ⟨ad, rfl, ha⟩ := hcl.out i (by simpa [ptrs] using hik)
          have hkc := (Kept.of HW.out).cell ha
          have hpk : (ptrs n.kids)[i]'(by simpa [ptrs] using hik) = ptr (n.kids[i]).b := by simp [ptrs]
          rw [hpk] at hkc
          obtain ⟨kd, ekd⟩ : ∃ kd, n.kids[i] = kd := ⟨_, rfl⟩
          have hkm : kd ∈ n.kids := by rw [← ekd]; exact List.getElem_mem _
          rw [ekd] at hkc
          have hcmem := cntNs_mem hkm
          have htk := cntFs_take K n.kids i hik
          have hfl := cntFs_le K (n.kids.take (i + 1))
          have hle2 := cntNs_le n.kids (i + 1)
          have cn2 := HN.out.2.1
          have cn3 := HN.out.1
          have cn4 := HN.out.2.2
          rw [ekd] at htk
          have q := IH.out kd m mb b1 b2 wr (by omega) (NdAt.keep (Kept.of HW.out) kd (HL.out.2.mem kd hkm)) (HH.out.2.1.keep (Kept.of HW.out)) ((Kept.of HW.out).at HH.out.2.2.1) ((Kept.of HW.out).at HH.out.2.2.2) (by omega)
          have QQ := Aside0.mk q
          have c2W : wr.cell? ⟨b2, 0, none⟩ = some (.func (.func 101) #[] #[.pointer (some { block := b1, off := 0 }), .pointer (some { block := b2, off := 0 })]) := by rw [blk_cell ((Kept.of HW.out).at HH.out.2.2.2)]; rfl
          obtain ⟨f0, ef0⟩ : ∃ f, cntFs K (n.kids.take i) = f := ⟨_, rfl⟩
          obtain ⟨f1, ef1⟩ : ∃ f, cntF K kd = f := ⟨_, rfl⟩
          rw [ef0, ef1] at htk
          rw [ef1] at QQ
          rw [ef0]
          have HT := Aside0.mk htk
          have ewa := Aside0.mk (show wrap64 (((1 + f0 : Nat) : Int) + (f1 : Int)) = ((1 + (f0 + f1) : Nat) : Int) by unfold wrap64; omega)
          have hltI : (i : Int) < (len : Int) := by omega
          clear q hcmem htk hfl hle2 cn2 cn3 cn4 hkm ekd hpk ha ef0 ef1
          unfold ptr at QQ hkc
          go_wp2_with (go_at_call 101; refine QQ.out.mono ?_)
          rintro e w3 ⟨rfl, hb3⟩
          have H3 := Aside0.mk hb3
          clear hb3 QQ
          go_wp2_with fail
          go_roundg (len - i)
          case measure => have := HQ.out; omega
          case rel =>
            refine ⟨i + 1, ?_, ?_, ⟨by have := HQ.out; omega⟩, ⟨belowAt HW.out H3.out⟩⟩
            · rw [HT.out]
              first | rfl | (congr 1; exact ewa.out) | (congr 1; rw [← ewa.out]; rfl) | (congr 1; omega) | (congr 1; have := ewa.out; simp at this ⊢; omega)
            · first | rfl | (congr 1; omega) | (simp; done) | (rw [show wrap64 ((i : Int) + 1) = ((i + 1 : Nat) : Int) by unfold wrap64; omega])
        · have hin : i = len := by have := HQ.out; omega
          subst hin
          have eR : ((1 + cntFs K (n.kids.take i) : Nat) : Int) = (r : Int) := by rw [List.take_of_length_le (by rw [HL.out.1]; exact Nat.le_refl _), HR1.out]
          rw [eR]
          clear eR
          go_wp2_with fail
          go_ret
          exact ⟨rfl, HW.out⟩
end Go.Proofs.Ytjhgknagmiekeaa.F
set_option linter.unusedVariables false
set_option linter.unusedSimpArgs false
namespace Go.Proofs.Ytjhgknagmiekeaa.T
mutual
theorem cnt_full : ∀ (n : Nd) (p : List UInt8), Full n → Br n → cntN n + 1 ≤ 2 * (ents p n).length
  | .mk b label leaf kids mark, p, hf, hb => by
    have h := cnt_fulls kids (p ++ L label) hb.parts
    rw [ents_eq, List.length_append, List.length_map, cntN]
    show 1 + cntNs kids + 1 ≤ 2 * (leaf.toList.length + (entss (p ++ L label) kids).length)
    rcases hf with hf | hf
    · have : leaf.isSome = true := hf
      cases leaf with
      | none => cases this
      | some l => simp; omega
    · have : 2 ≤ kids.length := hf
      omega
theorem cnt_fulls : ∀ (ks : List Nd) (p : List UInt8), Brs ks → cntNs ks + ks.length ≤ 2 * (entss p ks).length
  | [], p, _ => by simp [cntNs]
  | n :: r, p, hb => by
    obtain ⟨h1, h2⟩ := hb.mem n (by simp)
    have h3 : Brs r := Brs.of (fun k hk => hb.mem k (by simp [hk]))
    have g1 := cnt_full n p h1 h2
    have g2 := cnt_fulls r p h3
    rw [entss, cntNs, List.length_append, List.length_cons]
    omega
end
theorem cnt_bound {root : Nd} (h : Fine root) : cntN root ≤ 2 * (All root).length + 1 := by
  have h1 := cnt_fulls root.kids ([] ++ L root.label) h.br.parts
  rw [cntN_eq, show All root = ents [] root from rfl, ents_eq, List.length_append]
  omega
end Go.Proofs.Ytjhgknagmiekeaa.T
set_option linter.unusedVariables false
set_option linter.unusedSimpArgs false
namespace Go.Proofs.Ytjhgknagmiekeaa.F
open Go.RowKit Go.Lib Go.Proofs Go.ChangeMaps
open Go.Proofs.Ytjhgknagmiekeaa.T
open Go.Proofs.YtjhgknagmiekeaaW.PrintWords hiding blk_cell Kept
open Go.Proofs.Ytjhgknagmiekeaa.V (FarB farB_nd farB_nds)
theorem run_store_func {P : Program} {w : World} {a : Addr} {m : Mode} (f : Fn) (x y : Array Value) : (store a (.func f x y) m).run P w = stored P w a (.func f x y) m := run_store P w a _ m rfl
attribute [local go_sem] run_store_func
set_option maxHeartbeats 2000000 in
set_option maxRecDepth 100000 in
theorem freshC (w : World) (t1 t2 : Nat) (r1 r2 : Nd) (h1 : Tr w t1 r1) (h2 : Tr w t2 r2) (hs1 : (All r1).length < 1000000000000) (hs2 : (All r2).length < 1000000000000) :
    Calls Try.prog 44 #[ptr t1, ptr t2] w fun e w' => e = .returned (.int .i64 (cntF (fun b => decide (b ∈ bls r1)) r2 : Nat)) ∧ Below w.heap.size w w' := by
  have hmm := @run_makeMap Try.prog
  have HT := Aside0.mk (And.intro h1 (And.intro h2 (And.intro hs1 hs2)))
  obtain ⟨c, hc⟩ : ∃ c, cntF (fun b => decide (b ∈ bls r1)) r2 = c := ⟨_, rfl⟩
  rw [hc]
  have HC := Aside0.mk hc
  clear h1 h2 hs1 hs2 hc
  unfold ptr
  have b3 : (((w.alloc (.map #[] 0)).alloc (.cells #[.map (some w.heap.size)] 137)).alloc (.cells #[.nilFunc] 138)).heap[w.heap.size + 1 + 1]? = some (.cells #[.nilFunc] 138) := by
    have := World.alloc_heap_new ((w.alloc (.map #[] 0)).alloc (.cells #[.map (some w.heap.size)] 137)) (.cells #[.nilFunc] 138)
    rwa [World.size_alloc, World.size_alloc] at this
  have f3 : (((w.alloc (.map #[] 0)).alloc (.cells #[.map (some w.heap.size)] 137)).alloc (.cells #[.nilFunc] 138)).cell? ⟨w.heap.size + 1 + 1, 0, none⟩ = some .nilFunc := by rw [blk_cell b3]; rfl
  have g3 : (((w.alloc (.map #[] 0)).alloc (.cells #[.map (some w.heap.size)] 137)).alloc (.cells #[.nilFunc] 138)).frozen? ⟨w.heap.size + 1 + 1, 0, none⟩ = false := blk_frozen b3 0
  have HM : Aside0 (MapP (((w.alloc (.map #[] 0)).alloc (.cells #[.map (some w.heap.size)] 137)).alloc (.cells #[.nilFunc] 138)) w.heap.size 0 (fun _ => False)) := ⟨(MapP.made w).keep (Kept.of (((Below.refl _ _).alloc (Nat.le_refl _) _).alloc (by simp) _))⟩
  have hB0 : Below w.heap.size w (((w.alloc (.map #[] 0)).alloc (.cells #[.map (some w.heap.size)] 137)).alloc (.cells #[.nilFunc] 138)) := (((Below.refl _ w).alloc (Nat.le_refl _) _).alloc (by simp) _).alloc (by simp; omega) _
  have hb1 : (((w.alloc (.map #[] 0)).alloc (.cells #[.map (some w.heap.size)] 137)).alloc (.cells #[.nilFunc] 138)).heap[w.heap.size + 1]? = some (.cells #[.map (some w.heap.size)] 137 (0, 0)) := by
    have := World.alloc_heap_new (w.alloc (.map #[] 0)) (.cells #[.map (some w.heap.size)] 137)
    rw [World.size_alloc] at this
    exact (Below.heap_alloc _ _ _ (by simp)).trans this
  obtain ⟨W3, eW3⟩ : ∃ W3, (((w.alloc (.map #[] 0)).alloc (.cells #[.map (some w.heap.size)] 137)).alloc (.cells #[.nilFunc] 138)) = W3 := ⟨_, rfl⟩
  rw [eW3] at f3 g3 HM hB0 hb1 b3
  have HB3 := Aside0.mk (And.intro b3 (And.intro hB0 hb1))
  clear b3 hB0 hb1
  go_enter Try.func44, Try.ntmps44
  go_wp2_with fail
  clear f3 g3 eW3
  obtain ⟨W, eW⟩ : ∃ W, W3.setCell { block := w.heap.size + 1 + 1, off := 0 } (.func (.func 100) #[] #[.pointer (some { block := w.heap.size + 1, off := 0 }), .pointer (some { block := w.heap.size + 1 + 1, off := 0 })]) = W := ⟨_, rfl⟩
  rw [eW]
  have hB : Below w.heap.size w W := by
    rw [← eW]
    exact HB3.out.2.1.setCell (by show w.heap.size ≤ w.heap.size + 1 + 1; omega) _
  have hb2 : W.heap[w.heap.size + 1 + 1]? = some (.cells #[.func (.func 100) #[] #[ptr (w.heap.size + 1), ptr (w.heap.size + 1 + 1)]] 138 (0, 0)) := by
    rw [← eW]
    exact V.set_at HB3.out.1 0 _
  have hb1 : W.heap[w.heap.size + 1]? = some (.cells #[.map (some w.heap.size)] 137 (0, 0)) := by
    rw [← eW, V.set_far _ _ _ _ _ (by omega)]
    exact HB3.out.2.2
  have hm : MapP W w.heap.size 0 (fun _ => False) := by
    obtain ⟨es, clock, q1, q2, q3⟩ := HM.out.ex
    refine ⟨es, clock, ?_, fun e he => ?_, q3⟩
    · rw [← eW, V.set_far _ _ _ _ _ (by omega)]
      exact q1
    · exact absurd ((q3 _).2 ⟨e, he, (q2 e he).choose_spec.choose_spec.choose_spec.choose_spec.1⟩) (fun h => h)
  have HW := Aside0.mk (And.intro hB (And.intro hb1 (And.intro hb2 hm)))
  clear eW HB3 HM hmm
  have ht1 := HT.out.1.keep (Kept.of HW.out.1)
  have c0 : W.cell? ⟨w.heap.size + 1 + 1, 0, none⟩ = some (.func (.func 100) #[] #[.pointer (some { block := w.heap.size + 1, off := 0 }), .pointer (some { block := w.heap.size + 1 + 1, off := 0 })]) := by rw [blk_cell hb2]; rfl
  have c1 : W.cell? ⟨t1, 0, none⟩ = some (.pointer (some { block := r1.b, off := 0 })) := by rw [blk_cell ht1.at_.blk]; rfl
  have hcb := cnt_bound HT.out.1.fine
  have hcb2 := cnt_bound HT.out.2.1.fine
  have hs1 := HT.out.2.2.1
  have hs2 := HT.out.2.2.2
  have q := Aside0.mk (fun W' (hbW : Below W.heap.size W W') => learnC (cntN r1) r1 0 w.heap.size (w.heap.size + 1) (w.heap.size + 1 + 1) (fun _ => False) W' (Nat.le_refl _) (ht1.keep (Kept.of hbW)).at_.root (hm.keep (Kept.of hbW)) ((Kept.of hbW).at hb1) ((Kept.of hbW).at hb2) (by omega))
  have HK := Aside0.mk (And.intro hcb (And.intro hcb2 (And.intro hs1 hs2)))
  have HBW := Aside0.mk (below_drew (Below.refl W.heap.size W))
  clear hB hb1 hb2 hm ht1 hcb hcb2 hs1 hs2
  unfold ptr at q
  have SK : Aside0 (∀ Z : World, W.drew.grownBy Z (some w.heap.size) → Z.heap[w.heap.size + 1 + 1]? = W.heap[w.heap.size + 1 + 1]? ∧ Z.heap[w.heap.size + 1]? = W.heap[w.heap.size + 1]? ∧ Z.heap[t1]? = W.heap[t1]? ∧ Z.heap[t2]? = W.heap[t2]?) := ⟨fun Z hZ => by
    have hb2 := HW.out.2.2.1
    have hb1 := HW.out.2.1
    have ht1 := (HT.out.1.keep (Kept.of HW.out.1)).at_.blk
    have ht2 := (HT.out.2.1.keep (Kept.of HW.out.1)).at_.blk
    have hm := HW.out.2.2.2
    exact ⟨(grown_keep hZ hb2 (hm.off hb2)).trans hb2.symm, (grown_keep hZ hb1 (hm.off hb1)).trans hb1.symm, (grown_keep hZ ht1 (hm.off ht1)).trans ht1.symm, (grown_keep hZ ht2 (hm.off ht2)).trans ht2.symm⟩⟩
  go_region_held3 (fun Z => Z.cell? ⟨w.heap.size + 1 + 1, 0, none⟩ = some (.func (.func 100) #[] #[.pointer (some { block := w.heap.size + 1, off := 0 }), .pointer (some { block := w.heap.size + 1 + 1, off := 0 })]) ∧ Z.cell? ⟨t1, 0, none⟩ = some (.pointer (some { block := r1.b, off := 0 })))
    (first | exact ⟨c0, c1⟩ | exact ⟨(World.cell?_of_block (SK.out _ H3.out.2).1).trans c0, (World.cell?_of_block (SK.out _ H3.out.2).2.2.1).trans c1⟩)
    (first
      | (go_at_call 100; refine (q.out _ HBW.out).mono ?_; rintro e w3 ⟨rfl, hm3, hg3⟩; have H3 := Aside0.mk (And.intro hm3 hg3); clear hm3 hg3))
  have K3 := Aside0.mk (SK.out _ H3.out.2)
  clear c0 c1 q
  have hsz3 := H3.out.2.size
  have hszW := HW.out.1.size
  have hnew : w.heap.size + 1 + 1 < W.heap.size := (Array.getElem?_eq_some_iff.1 HW.out.2.2.1).1
  have hsd : W.drew.heap.size = W.heap.size := rfl
  have b4 := World.alloc_heap_new w3 (.cells #[.nilFunc] 139)
  have f4 : (w3.alloc (.cells #[.nilFunc] 139)).cell? ⟨w3.heap.size, 0, none⟩ = some .nilFunc := by rw [blk_cell b4]; rfl
  have g4 : (w3.alloc (.cells #[.nilFunc] 139)).frozen? ⟨w3.heap.size, 0, none⟩ = false := blk_frozen b4 0
  have hB4 : Below w3.heap.size w3 (w3.alloc (.cells #[.nilFunc] 139)) := (Below.refl _ w3).alloc (Nat.le_refl _) _
  obtain ⟨W4, eW4⟩ : ∃ W4, w3.alloc (.cells #[.nilFunc] 139) = W4 := ⟨_, rfl⟩
  rw [eW4] at b4 f4 g4 hB4
  have HB4 := Aside0.mk (And.intro b4 hB4)
  have HSZ := Aside0.mk (And.intro hsz3 (And.intro hszW (And.intro hnew hsd)))
  clear b4 hB4 hsz3 hszW hnew hsd
  go_wp2_with fail
  clear f4 g4 eW4
  obtain ⟨W5, eW5⟩ : ∃ W5, W4.setCell { block := w3.heap.size, off := 0 } (.func (.func 101) #[] #[.pointer (some { block := w.heap.size + 1, off := 0 }), .pointer (some { block := w3.heap.size, off := 0 })]) = W5 := ⟨_, rfl⟩
  rw [eW5]
  have hb5 : Below w3.heap.size w3 W5 := by rw [← eW5]; exact HB4.out.2.setCell (Nat.le_refl _) _
  have hc5 : W5.heap[w3.heap.size]? = some (.cells #[.func (.func 101) #[] #[ptr (w.heap.size + 1), ptr w3.heap.size]] 139 (0, 0)) := by
    rw [← eW5]
    exact V.set_at HB4.out.1 0 _
  have K5 := Kept.of hb5
  have hm5 : MapP W5 w.heap.size (0 + cntN r1) (fun x => (fun b => decide (b ∈ bls r1)) x = true) := (H3.out.1.keep K5).imp (fun b => by simp)
  have hb51 : W5.heap[w.heap.size + 1]? = some (.cells #[.map (some w.heap.size)] 137 (0, 0)) := K5.at (K3.out.2.1.trans HW.out.2.1)
  have ht2 := HT.out.2.1.keep (Kept.of HW.out.1)
  have kdr : T.Kept W W.drew := Kept.of (below_drew (Below.refl W.heap.size W))
  have hnd3 : NdAt w3 r2 := farB_nd (MapP.far (HW.out.2.2.2.keep kdr) H3.out.2) r2 (NdAt.keep kdr r2 ht2.at_.root)
  have hnd5 : NdAt W5 r2 := NdAt.keep K5 r2 hnd3
  have d0 : W5.cell? ⟨w3.heap.size, 0, none⟩ = some (.func (.func 101) #[] #[.pointer (some { block := w.heap.size + 1, off := 0 }), .pointer (some { block := w3.heap.size, off := 0 })]) := by rw [blk_cell hc5]; rfl
  have d1 : W5.cell? ⟨t2, 0, none⟩ = some (.pointer (some { block := r2.b, off := 0 })) := by rw [blk_cell (K5.at (K3.out.2.2.2.trans ht2.at_.blk))]; rfl
  have q := Aside0.mk (fun W' (hbW : Below W5.heap.size W5 W') => countC (fun b => decide (b ∈ bls r1)) (cntN r2) r2 (0 + cntN r1) w.heap.size (w.heap.size + 1) w3.heap.size W' (Nat.le_refl _) (NdAt.keep (Kept.of hbW) r2 hnd5) (hm5.keep (Kept.of hbW)) ((Kept.of hbW).at hb51) ((Kept.of hbW).at hc5) (by have := HK.out; omega))
  rw [HC.out] at q
  have HB5 := Aside0.mk (below_drew (Below.refl W5.heap.size W5))
  have H5 := Aside0.mk hb5
  clear hb5 hc5 K5 hm5 hb51 ht2 hnd3 hnd5 eW5
  unfold ptr at q
  go_region_held3 (fun Z => Z.cell? ⟨w3.heap.size, 0, none⟩ = some (.func (.func 101) #[] #[.pointer (some { block := w.heap.size + 1, off := 0 }), .pointer (some { block := w3.heap.size, off := 0 })]) ∧ Z.cell? ⟨t2, 0, none⟩ = some (.pointer (some { block := r2.b, off := 0 })))
    (first | exact ⟨d0, d1⟩ | exact ⟨(Kept.of (below_drew (Below.refl W5.heap.size W5))).cell d0, (Kept.of (below_drew (Below.refl W5.heap.size W5))).cell d1⟩ | exact ⟨(Kept.of H6.out).cell ((Kept.of HB5.out).cell d0), (Kept.of H6.out).cell ((Kept.of HB5.out).cell d1)⟩)
    (first
      | (go_at_call 101; refine (q.out _ HB5.out).mono ?_; rintro e w6 ⟨rfl, hb6⟩; have H6 := Aside0.mk hb6; clear hb6))
  go_wp2_with fail
  go_ret
  refine ⟨rfl, ?_⟩
  have e1 : Below w.heap.size w w3 := by
    have hg := H3.out.2
    refine ⟨hg.os.trans HW.out.1.os, hg.tape.trans HW.out.1.tape, hg.output.trans HW.out.1.output, Nat.le_trans HW.out.1.size hg.size, fun k hk => ?_⟩
    exact (hg.block k (Nat.lt_of_lt_of_le hk HW.out.1.size) (fun e => by injection e with e; omega)).trans (HW.out.1.block k hk)
  exact belowAt (belowAt e1 H5.out) (belowAt HB5.out H6.out)
end Go.Proofs.Ytjhgknagmiekeaa.F
set_option linter.unusedVariables false
set_option linter.unusedSimpArgs false
namespace Go.Proofs.Ytjhgknagmiekeaa.N
open Go.RowKit Go.Lib Go.Proofs
open Go.Proofs.Ytjhgknagmiekeaa.K Go.Proofs.YtjhgknagmiekeaaW.PrintLast
open Go.Proofs.YtjhgknagmiekeaaW.PrintWords hiding Kept
open Go.Proofs.Ytjhgknagmiekeaa.T (L Nd Fine IntVals valT wasV All findT Tr ptr cntF onC)
open Go.Proofs.Ytjhgknagmiekeaa.F (insF delF Anew Kb)
theorem insRtO (Mo : Nat → Prop) (w : World) (t : Rt) (h : RokP t) (v0 v1 v2 v3 v4 : Value) (hm : RtAt w t v0 v1 v2 v3 v4) (a : ByteArray) (v nx : Int) (ha : a.size < 4611686018427387904) (hl : t.ks.length < 100000000000) :
    Calls Try.prog 66 #[.agg #[v0, v1, v2, v3, v4], .string a, .int .i64 v, .int .i64 nx] w fun e w' => ∃ (t' : Rt) (old : Int) (b : Bool) (nx' : Int) (u0 u1 u2 u3 u4 : Value), e = .returned (.tuple #[.agg #[u0, u1, u2, u3, u4], .int .i64 old, .bool b, .int .i64 nx']) ∧ t'.ks.length ≤ t.ks.length + 1 ∧ RokP t' ∧ InsD t t' a v nx nx' old b ∧ Aside0 (RtOff (fun k => Mo k ∧ k < w.heap.size) w' t' u0 u1 u2 u3 u4) ∧ Below w.heap.size w w' := by
  refine (insRtH w t h v0 v1 v2 v3 v4 hm a v nx ha hl).mono ?_
  rintro e w' ⟨t', old, b, nx', u0, u1, u2, u3, u4, rfl, ho, hk2, hd, hl2, hb⟩
  exact ⟨t', old, b, nx', u0, u1, u2, u3, u4, rfl, hl2, hk2, hd, ⟨(rtOff_rob ho).imp (fun k _ h => h.2)⟩, hb⟩
theorem delRtO (Mo : Nat → Prop) (w : World) (t : Rt) (h : RokP t) (v0 v1 v2 v3 v4 : Value) (hm : RtOff Mo w t v0 v1 v2 v3 v4) (a : ByteArray) (nx : Int) (ha : a.size < 4611686018427387904) (hl : t.ks.length < 100000000000) :
    Calls Try.prog 40 #[.agg #[v0, v1, v2, v3, v4], .string a, .int .i64 nx] w fun e w' => ∃ (t' : Rt) (old : Int) (b : Bool) (nx' : Int) (u0 u1 u2 u3 u4 : Value), e = .returned (.tuple #[.agg #[u0, u1, u2, u3, u4], .int .i64 old, .bool b, .int .i64 nx']) ∧ t'.ks.length ≤ t.ks.length + 1 ∧ RokP t' ∧ DelRt t t' a nx nx' old b ∧ Aside0 (RtOff (fun k => Mo k ∧ k < w.heap.size) w' t' u0 u1 u2 u3 u4) ∧ Below w.heap.size w w' := by
  refine (delRtC Mo w t h v0 v1 v2 v3 v4 hm a nx ha hl).mono ?_
  rintro e w' ⟨t', old, b, nx', u0, u1, u2, u3, u4, rfl, ho, hk2, hd, hb⟩
  refine ⟨t', old, b, nx', u0, u1, u2, u3, u4, rfl, ?_, hk2, hd, ⟨ho⟩, hb⟩
  rcases hd with ⟨-, -, rfl, -⟩ | ⟨n, P, M, -, hn, -, -, rfl, -⟩
  · omega
  · show (cutAt t.ks n).length ≤ _
    rw [cutAt_len _ _ hn]; omega
theorem agree_mem {root : Nd} {t : Rt} (hg : T.Good root) (hv : IntVals root) (ht : Rok t) (h : Agree root t) {a : ByteArray} (hm : a ∈ t.ks) : valT root (L a) ≠ none := by
  obtain ⟨j, hj, e⟩ := List.getElem_of_mem hm
  have := agree_in hg hv ht h hj
  rw [gd_get hj, e] at this
  rw [this]
  simp
attribute [local go_sem] Oper.semAt_some
set_option maxRecDepth 100000 in
set_option maxHeartbeats 4000000 in
theorem grownI (w : World) (tb : Nat) (root : Nd) (ht : Tr w tb root) (t : Rt) (hok : RokP t) (hag : Agree root t) (v0 v1 v2 v3 v4 : Value) (hm : RtAt w t v0 v1 v2 v3 v4) (a : ByteArray) (on v nx : Int) (ha : a.size < 4000000000000) (hl : t.ks.length < 10000000000) (hs : (All root).length < 1000000000000) :
    Calls Try.prog 46 #[ptr tb, .agg #[v0, v1, v2, v3, v4], .agg #[.int .i64 0, .int .i64 on, .string a, .int .i64 v], .int .i64 nx] w fun e w' => ∃ (tb' : Nat) (root' : Nd) (t' : Rt) (old : Int) (b : Bool) (nx' : Int) (u0 u1 u2 u3 u4 : Value), e = .returned (.tuple #[ptr tb', .agg #[u0, u1, u2, u3, u4], .int .i64 nx', .bool true]) ∧ Tr w' tb' root' ∧ RtAt w' t' u0 u1 u2 u3 u4 ∧ RokP t' ∧ Agree root' t' ∧ t'.ks.length ≤ t.ks.length + 1 ∧ (All root').length ≤ (All root).length + 1 ∧ (Anew root root' a) ∧ Below w.heap.size w w' := by
  have HT := Aside0.mk (And.intro ht (And.intro hok hag))
  have HM := Aside0.mk hm
  have QT := Aside0.mk (fun w1 (hB : Below w.heap.size w w1) => insF w1 tb root (ht.keep (T.Kept.of hB)) a v ha (by omega))
  have QD := Aside0.mk (fun w1 (hB : Below w.heap.size w w1) => insRtO (fun k => w.heap.size ≤ k ∧ k ≤ w.heap.size + 1 + 1) w1 t hok _ _ _ _ _ (hm.below hB) a v nx (by omega) (by omega))
  obtain ⟨⟨A0, N0, c0, rfl⟩, ⟨A1, N1, c1, rfl⟩, ⟨A2, N2, c2, rfl⟩, ⟨A3, N3, c3, rfl⟩, ⟨A4, N4, c4, rfl⟩⟩ := hm.forms
  obtain ⟨o, eo⟩ : ∃ o, valT root (L a) = o := ⟨_, rfl⟩
  have HO := Aside0.mk eo
  have HL := Aside0.mk hl
  rw [eo] at QT
  have HF := Aside0.mk (fun tb' => wasV_form tb' o)
  clear ht hok hag hm hs hl eo
  unfold ptr at QT ⊢
  go_enter Try.func46, Try.ntmps46
  have HB0 := Aside0.mk ((((Below.refl w.heap.size w).alloc (Nat.le_refl _) (Obj.cells #[.slice A0 N0 c0, .slice A1 N1 c1, .slice A2 N2 c2, .slice A3 N3 c3, .slice A4 N4 c4] 28)).alloc (by simp) (Obj.cells #[.int .i64 0, .int .i64 on, .string a, .int .i64 v] 67)).alloc (by simp; omega) (Obj.cells #[.slice none 0 0, .slice none 0 0, .slice none 0 0, .slice none 0 0, .slice none 0 0] 28))
  have HU0 : Aside0 ((((w.alloc (Obj.cells #[.slice A0 N0 c0, .slice A1 N1 c1, .slice A2 N2 c2, .slice A3 N3 c3, .slice A4 N4 c4] 28)).alloc (Obj.cells #[.int .i64 0, .int .i64 on, .string a, .int .i64 v] 67)).alloc (Obj.cells #[.slice none 0 0, .slice none 0 0, .slice none 0 0, .slice none 0 0, .slice none 0 0] 28)).heap[w.heap.size]? = some (.cells #[.slice A0 N0 c0, .slice A1 N1 c1, .slice A2 N2 c2, .slice A3 N3 c3, .slice A4 N4 c4] 28 (0, 0)) ∧ (((w.alloc (Obj.cells #[.slice A0 N0 c0, .slice A1 N1 c1, .slice A2 N2 c2, .slice A3 N3 c3, .slice A4 N4 c4] 28)).alloc (Obj.cells #[.int .i64 0, .int .i64 on, .string a, .int .i64 v] 67)).alloc (Obj.cells #[.slice none 0 0, .slice none 0 0, .slice none 0 0, .slice none 0 0, .slice none 0 0] 28)).heap[w.heap.size + 1]? = some (.cells #[.int .i64 0, .int .i64 on, .string a, .int .i64 v] 67 (0, 0)) ∧ (((w.alloc (Obj.cells #[.slice A0 N0 c0, .slice A1 N1 c1, .slice A2 N2 c2, .slice A3 N3 c3, .slice A4 N4 c4] 28)).alloc (Obj.cells #[.int .i64 0, .int .i64 on, .string a, .int .i64 v] 67)).alloc (Obj.cells #[.slice none 0 0, .slice none 0 0, .slice none 0 0, .slice none 0 0, .slice none 0 0] 28)).heap[w.heap.size + 1 + 1]? = some (.cells #[.slice none 0 0, .slice none 0 0, .slice none 0 0, .slice none 0 0, .slice none 0 0] 28 (0, 0))) := ⟨(Below.heap_alloc _ _ _ (by simp; omega)).trans ((Below.heap_alloc _ _ _ (by simp)).trans (World.alloc_heap_new w _)), by
      refine (Below.heap_alloc _ _ _ (by simp)).trans ?_
      have := World.alloc_heap_new (w.alloc (Obj.cells #[.slice A0 N0 c0, .slice A1 N1 c1, .slice A2 N2 c2, .slice A3 N3 c3, .slice A4 N4 c4] 28)) (Obj.cells #[.int .i64 0, .int .i64 on, .string a, .int .i64 v] 67)
      rwa [World.size_alloc] at this, by
      have := World.alloc_heap_new ((w.alloc (Obj.cells #[.slice A0 N0 c0, .slice A1 N1 c1, .slice A2 N2 c2, .slice A3 N3 c3, .slice A4 N4 c4] 28)).alloc (Obj.cells #[.int .i64 0, .int .i64 on, .string a, .int .i64 v] 67)) (Obj.cells #[.slice none 0 0, .slice none 0 0, .slice none 0 0, .slice none 0 0, .slice none 0 0] 28)
      rwa [World.size_alloc, World.size_alloc] at this⟩
  go_wp2_with fail
  go_at_call 43
  refine (QT.out _ HB0.out).mono ?_
  rintro e w1 ⟨tb', root', rfl, ht', hv', hl', hnew, hb⟩
  obtain ⟨oa, ob, eab⟩ := HF.out tb'
  rw [eab]
  have HEAB := Aside0.mk eab
  have H1 := Aside0.mk (And.intro ht' (And.intro hv' (And.intro hl' hnew)))
  have bu0 := (hb.block _ (Array.getElem?_eq_some_iff.1 HU0.out.1).1).trans HU0.out.1
  have bu1 := (hb.block _ (Array.getElem?_eq_some_iff.1 HU0.out.2.1).1).trans HU0.out.2.1
  have bu2 := (hb.block _ (Array.getElem?_eq_some_iff.1 HU0.out.2.2).1).trans HU0.out.2.2
  have HB1 := Aside0.mk (T.belowAt HB0.out hb)
  have HU1 := Aside0.mk (And.intro bu0 (And.intro bu1 bu2))
  have m0 : w1.cell? ⟨w.heap.size, 0, none⟩ = some (.slice A0 N0 c0) := by rw [blk_cell bu0]; rfl
  have m1 : w1.cell? ⟨w.heap.size, 1, none⟩ = some (.slice A1 N1 c1) := by rw [blk_cell bu0]; rfl
  have m2 : w1.cell? ⟨w.heap.size, 2, none⟩ = some (.slice A2 N2 c2) := by rw [blk_cell bu0]; rfl
  have m3 : w1.cell? ⟨w.heap.size, 3, none⟩ = some (.slice A3 N3 c3) := by rw [blk_cell bu0]; rfl
  have m4 : w1.cell? ⟨w.heap.size, 4, none⟩ = some (.slice A4 N4 c4) := by rw [blk_cell bu0]; rfl
  have p2 : w1.cell? ⟨w.heap.size + 1, 2, none⟩ = some (.string a) := by rw [blk_cell bu1]; rfl
  have p3 : w1.cell? ⟨w.heap.size + 1, 3, none⟩ = some (.int .i64 v) := by rw [blk_cell bu1]; rfl
  clear QT HF eab ht' hv' hl' hnew hb bu0 bu1 bu2 HU0
  unfold ptr
  go_wp2_with fail
  go_at_call 66
  refine (QD.out _ HB1.out).mono ?_
  rintro e w2 ⟨t', old, b, nx', u0, u1, u2, u3, u4, rfl, ho, hk2, hd, HR, hb⟩
  have HKL := Aside0.mk ho
  obtain ⟨⟨B0, k0, d0, rfl⟩, ⟨B1, k1, d1, rfl⟩, ⟨B2, k2, d2, rfl⟩, ⟨B3, k3, d3, rfl⟩, ⟨B4, k4, d4, rfl⟩⟩ := HR.out.here.forms
  have hwas := was_ins HT.out.1.fine.toGood HT.out.1.vals HT.out.2.1.toRok HT.out.2.2 hd tb'
  rw [HO.out, HEAB.out] at hwas
  injection hwas with hwas
  injection hwas with hwas
  injection hwas with _ hwas
  injection hwas with eoa hwas
  injection hwas with eob _
  injection eob with eob
  subst eoa
  subst eob
  have HB2 := Aside0.mk (T.belowAt HB1.out hb)
  have HU2 := Aside0.mk ((hb.block _ (Array.getElem?_eq_some_iff.1 HU1.out.2.2).1).trans HU1.out.2.2)
  have HTr := Aside0.mk (H1.out.1.keep (T.Kept.of hb))
  have H2 := Aside0.mk (And.intro hk2 hd)
  clear ho hk2 hd hb m0 m1 m2 m3 m4 p2 p3 QD
  obtain ⟨C, eC⟩ : ∃ C, w2.heap.size = C := ⟨_, rfl⟩
  have hC : w.heap.size + 1 + 1 < C := by rw [← eC]; exact (Array.getElem?_eq_some_iff.1 HU2.out).1
  go_upto_region 4 with fail
  obtain ⟨W3, e3⟩ : ∃ W3, w2.alloc (Obj.cells #[.slice B0 k0 d0, .slice B1 k1 d1, .slice B2 k2 d2, .slice B3 k3 d3, .slice B4 k4 d4] 28) = W3 := ⟨_, rfl⟩
  have hu3 : W3.heap[C]? = some (.cells #[.slice B0 k0 d0, .slice B1 k1 d1, .slice B2 k2 d2, .slice B3 k3 d3, .slice B4 k4 d4] 28 (0, 0)) := by rw [← e3, ← eC]; exact World.alloc_heap_new w2 _
  have hz3 : W3.heap[w.heap.size + 1 + 1]? = some (.cells #[.slice none 0 0, .slice none 0 0, .slice none 0 0, .slice none 0 0, .slice none 0 0] 28 (0, 0)) := by rw [← e3]; exact (Below.heap_alloc _ _ _ (by omega)).trans HU2.out
  have hb23 : Below w2.heap.size w2 W3 := by rw [← e3]; exact (Below.refl _ w2).alloc (Nat.le_refl _) _
  have H3 := Aside0.mk (And.intro hb23 (And.intro hu3 hz3))
  rw [e3]
  clear e3 hb23 eC
  have z0 : W3.cell? ⟨C, 0, none⟩ = some (.slice B0 k0 d0) := by rw [blk_cell hu3]; rfl
  have z1 : W3.cell? ⟨C, 1, none⟩ = some (.slice B1 k1 d1) := by rw [blk_cell hu3]; rfl
  have z2 : W3.cell? ⟨C, 2, none⟩ = some (.slice B2 k2 d2) := by rw [blk_cell hu3]; rfl
  have z3 : W3.cell? ⟨C, 3, none⟩ = some (.slice B3 k3 d3) := by rw [blk_cell hu3]; rfl
  have z4 : W3.cell? ⟨C, 4, none⟩ = some (.slice B4 k4 d4) := by rw [blk_cell hu3]; rfl
  have q0 : W3.cell? ⟨w.heap.size + 1 + 1, 0, none⟩ = some (.slice none 0 0) := by rw [blk_cell hz3]; rfl
  have q1 : W3.cell? ⟨w.heap.size + 1 + 1, 1, none⟩ = some (.slice none 0 0) := by rw [blk_cell hz3]; rfl
  have q2 : W3.cell? ⟨w.heap.size + 1 + 1, 2, none⟩ = some (.slice none 0 0) := by rw [blk_cell hz3]; rfl
  have q3 : W3.cell? ⟨w.heap.size + 1 + 1, 3, none⟩ = some (.slice none 0 0) := by rw [blk_cell hz3]; rfl
  have q4 : W3.cell? ⟨w.heap.size + 1 + 1, 4, none⟩ = some (.slice none 0 0) := by rw [blk_cell hz3]; rfl
  have f0 : W3.frozen? ⟨w.heap.size + 1 + 1, 0, none⟩ = false := blk_frozen hz3 0
  have f1 : W3.frozen? ⟨w.heap.size + 1 + 1, 1, none⟩ = false := blk_frozen hz3 1
  have f2 : W3.frozen? ⟨w.heap.size + 1 + 1, 2, none⟩ = false := blk_frozen hz3 2
  have f3 : W3.frozen? ⟨w.heap.size + 1 + 1, 3, none⟩ = false := blk_frozen hz3 3
  have f4 : W3.frozen? ⟨w.heap.size + 1 + 1, 4, none⟩ = false := blk_frozen hz3 4
  clear hu3 hz3
  go_region
  go_wp2_with fail
  clear z0 z1 z2 z3 z4 q0 q1 q2 q3 q4 f0 f1 f2 f3 f4
  obtain ⟨W6, e5⟩ : ∃ W6, V.set5 W3 (w.heap.size + 1 + 1) (.slice B0 k0 d0) (.slice B1 k1 d1) (.slice B2 k2 d2) (.slice B3 k3 d3) (.slice B4 k4 d4) = W6 := ⟨_, rfl⟩
  have e6 : ((((W3.setCell { block := w.heap.size + 1 + 1, off := 0 } (.slice B0 k0 d0)).setCell { block := w.heap.size + 1 + 1, off := 1 } (.slice B1 k1 d1)).setCell { block := w.heap.size + 1 + 1, off := 2 } (.slice B2 k2 d2)).setCell { block := w.heap.size + 1 + 1, off := 3 } (.slice B3 k3 d3)).setCell { block := w.heap.size + 1 + 1, off := 4 } (.slice B4 k4 d4) = W6 := e5
  have hz6 := V.set5_at H3.out.2.2 (.slice B0 k0 d0) (.slice B1 k1 d1) (.slice B2 k2 d2) (.slice B3 k3 d3) (.slice B4 k4 d4)
  have hfar6 : ∀ k, k ≠ w.heap.size + 1 + 1 → W6.heap[k]? = W3.heap[k]? := fun k hk => by rw [← e5]; exact V.set5_far _ _ _ _ _ _ _ k hk
  have hsz6 : W6.heap.size = W3.heap.size := by rw [← e5]; simp [V.set5, T.size_setCell]
  have hb6 : Below w.heap.size w W6 := by rw [← e5]; exact V.set5_below (T.belowAt HB2.out H3.out.1) (by omega) _ _ _ _ _
  rw [e5] at hz6
  rw [e6]
  have q0 : W6.drew.cell? ⟨w.heap.size + 1 + 1, 0, none⟩ = some (.slice B0 k0 d0) := by show W6.cell? _ = _; rw [blk_cell hz6]; rfl
  have q1 : W6.drew.cell? ⟨w.heap.size + 1 + 1, 1, none⟩ = some (.slice B1 k1 d1) := by show W6.cell? _ = _; rw [blk_cell hz6]; rfl
  have q2 : W6.drew.cell? ⟨w.heap.size + 1 + 1, 2, none⟩ = some (.slice B2 k2 d2) := by show W6.cell? _ = _; rw [blk_cell hz6]; rfl
  have q3 : W6.drew.cell? ⟨w.heap.size + 1 + 1, 3, none⟩ = some (.slice B3 k3 d3) := by show W6.cell? _ = _; rw [blk_cell hz6]; rfl
  have q4 : W6.drew.cell? ⟨w.heap.size + 1 + 1, 4, none⟩ = some (.slice B4 k4 d4) := by show W6.cell? _ = _; rw [blk_cell hz6]; rfl
  refine bodyPost_ret (v := .tuple #[.pointer (some ⟨tb', 0, none⟩), .agg #[.slice B0 k0 d0, .slice B1 k1 d1, .slice B2 k2 d2, .slice B3 k3 d3, .slice B4 k4 d4], .int .i64 nx', .bool true]) (by simp [results, Try.results46, go_sem, q0, q1, q2, q3, q4]) rfl ?_
  have hd6 : Below W6.heap.size W6 W6.drew := below_drew (Below.refl _ _)
  have hfr : V.Far (w.heap.size + 1 + 1) W3 W6 := ⟨⟨_, _, _, _, _, H3.out.2.2, by simp⟩, fun k h _ => hfar6 k h⟩
  have htr : Tr W6.drew tb' root' := (V.far_tr hfr (HTr.out.keep (T.Kept.of H3.out.1))).keep (T.Kept.of hd6)
  have hro : RtOff (fun k => w.heap.size ≤ k ∧ k ≤ w.heap.size + 1 + 1) W3 t' (.slice B0 k0 d0) (.slice B1 k1 d1) (.slice B2 k2 d2) (.slice B3 k3 d3) (.slice B4 k4 d4) := (HR.out.below H3.out.1).imp (fun k hk h => .inl ⟨h, by have := HB1.out.size; have h9 := (Array.getElem?_eq_some_iff.1 HU1.out.2.2).1; omega⟩)
  have hrt : RtAt W6 t' (.slice B0 k0 d0) (.slice B1 k1 d1) (.slice B2 k2 d2) (.slice B3 k3 d3) (.slice B4 k4 d4) := (RtOff.set (M := fun k => w.heap.size ≤ k ∧ k ≤ w.heap.size + 1 + 1) hro (fun k hk => hk) (b := w.heap.size + 1 + 1) ⟨by omega, by omega⟩ hsz6 hfar6).here
  refine ⟨tb', root', t', old, ob, nx', _, _, _, _, _, rfl, htr, hrt.below hd6, H2.out.1, ?_, ?_, H1.out.2.2.1, H1.out.2.2.2, T.belowAt hb6 hd6⟩
  · exact (H2.out.2.rt HT.out.2.1.toRok H2.out.1.toRok) root root' HT.out.1.fine HT.out.1.vals H1.out.1.fine H1.out.1.vals HT.out.2.2 H1.out.2.1
  · exact HKL.out
set_option maxRecDepth 100000 in
set_option maxHeartbeats 4000000 in
theorem grownD (w : World) (tb : Nat) (root : Nd) (ht : Tr w tb root) (t : Rt) (hok : RokP t) (hag : Agree root t) (v0 v1 v2 v3 v4 : Value) (hm : RtAt w t v0 v1 v2 v3 v4) (a : ByteArray) (on v nx : Int) (ha : a.size < 4000000000000) (hl : t.ks.length < 10000000000) (hs : (All root).length < 1000000000000) :
    Calls Try.prog 46 #[ptr tb, .agg #[v0, v1, v2, v3, v4], .agg #[.int .i64 1, .int .i64 on, .string a, .int .i64 v], .int .i64 nx] w fun e w' => ∃ (tb' : Nat) (root' : Nd) (t' : Rt) (old : Int) (b : Bool) (nx' : Int) (u0 u1 u2 u3 u4 : Value), e = .returned (.tuple #[ptr tb', .agg #[u0, u1, u2, u3, u4], .int .i64 nx', .bool true]) ∧ Tr w' tb' root' ∧ RtAt w' t' u0 u1 u2 u3 u4 ∧ RokP t' ∧ Agree root' t' ∧ t'.ks.length ≤ t.ks.length + 1 ∧ (All root').length ≤ (All root).length + 1 ∧ (((a ∈ t.ks) → Anew root root' a) ∧ ((a ∉ t.ks) → cntF (Kb root) root' = 0)) ∧ Below w.heap.size w w' := by
  have HT := Aside0.mk (And.intro ht (And.intro hok hag))
  have HM := Aside0.mk hm
  have QT := Aside0.mk (fun w1 (hB : Below w.heap.size w w1) => delF w1 tb root (ht.keep (T.Kept.of hB)) a ha (by omega))
  have QD := Aside0.mk (fun w1 (hB : Below w.heap.size w w1) => delRtO (fun k => w.heap.size ≤ k ∧ k ≤ w.heap.size + 1 + 1) w1 t hok _ _ _ _ _ ((hm.off.below hB).imp (fun k _ h => .inr h.1)) a nx (by omega) (by omega))
  obtain ⟨⟨A0, N0, c0, rfl⟩, ⟨A1, N1, c1, rfl⟩, ⟨A2, N2, c2, rfl⟩, ⟨A3, N3, c3, rfl⟩, ⟨A4, N4, c4, rfl⟩⟩ := hm.forms
  obtain ⟨o, eo⟩ : ∃ o, valT root (L a) = o := ⟨_, rfl⟩
  have HO := Aside0.mk eo
  have HL := Aside0.mk hl
  rw [eo] at QT
  have HF := Aside0.mk (fun tb' => wasV_form tb' o)
  clear ht hok hag hm hs hl eo
  unfold ptr at QT ⊢
  go_enter Try.func46, Try.ntmps46
  have HB0 := Aside0.mk ((((Below.refl w.heap.size w).alloc (Nat.le_refl _) (Obj.cells #[.slice A0 N0 c0, .slice A1 N1 c1, .slice A2 N2 c2, .slice A3 N3 c3, .slice A4 N4 c4] 28)).alloc (by simp) (Obj.cells #[.int .i64 1, .int .i64 on, .string a, .int .i64 v] 67)).alloc (by simp; omega) (Obj.cells #[.slice none 0 0, .slice none 0 0, .slice none 0 0, .slice none 0 0, .slice none 0 0] 28))
  have HU0 : Aside0 ((((w.alloc (Obj.cells #[.slice A0 N0 c0, .slice A1 N1 c1, .slice A2 N2 c2, .slice A3 N3 c3, .slice A4 N4 c4] 28)).alloc (Obj.cells #[.int .i64 1, .int .i64 on, .string a, .int .i64 v] 67)).alloc (Obj.cells #[.slice none 0 0, .slice none 0 0, .slice none 0 0, .slice none 0 0, .slice none 0 0] 28)).heap[w.heap.size]? = some (.cells #[.slice A0 N0 c0, .slice A1 N1 c1, .slice A2 N2 c2, .slice A3 N3 c3, .slice A4 N4 c4] 28 (0, 0)) ∧ (((w.alloc (Obj.cells #[.slice A0 N0 c0, .slice A1 N1 c1, .slice A2 N2 c2, .slice A3 N3 c3, .slice A4 N4 c4] 28)).alloc (Obj.cells #[.int .i64 1, .int .i64 on, .string a, .int .i64 v] 67)).alloc (Obj.cells #[.slice none 0 0, .slice none 0 0, .slice none 0 0, .slice none 0 0, .slice none 0 0] 28)).heap[w.heap.size + 1]? = some (.cells #[.int .i64 1, .int .i64 on, .string a, .int .i64 v] 67 (0, 0)) ∧ (((w.alloc (Obj.cells #[.slice A0 N0 c0, .slice A1 N1 c1, .slice A2 N2 c2, .slice A3 N3 c3, .slice A4 N4 c4] 28)).alloc (Obj.cells #[.int .i64 1, .int .i64 on, .string a, .int .i64 v] 67)).alloc (Obj.cells #[.slice none 0 0, .slice none 0 0, .slice none 0 0, .slice none 0 0, .slice none 0 0] 28)).heap[w.heap.size + 1 + 1]? = some (.cells #[.slice none 0 0, .slice none 0 0, .slice none 0 0, .slice none 0 0, .slice none 0 0] 28 (0, 0))) := ⟨(Below.heap_alloc _ _ _ (by simp; omega)).trans ((Below.heap_alloc _ _ _ (by simp)).trans (World.alloc_heap_new w _)), by
      refine (Below.heap_alloc _ _ _ (by simp)).trans ?_
      have := World.alloc_heap_new (w.alloc (Obj.cells #[.slice A0 N0 c0, .slice A1 N1 c1, .slice A2 N2 c2, .slice A3 N3 c3, .slice A4 N4 c4] 28)) (Obj.cells #[.int .i64 1, .int .i64 on, .string a, .int .i64 v] 67)
      rwa [World.size_alloc] at this, by
      have := World.alloc_heap_new ((w.alloc (Obj.cells #[.slice A0 N0 c0, .slice A1 N1 c1, .slice A2 N2 c2, .slice A3 N3 c3, .slice A4 N4 c4] 28)).alloc (Obj.cells #[.int .i64 1, .int .i64 on, .string a, .int .i64 v] 67)) (Obj.cells #[.slice none 0 0, .slice none 0 0, .slice none 0 0, .slice none 0 0, .slice none 0 0] 28)
      rwa [World.size_alloc, World.size_alloc] at this⟩
  go_wp2_with fail
  go_at_call 39
  refine (QT.out _ HB0.out).mono ?_
  rintro e w1 ⟨tb', root', rfl, ht', hv', hl', hnew, hb⟩
  obtain ⟨oa, ob, eab⟩ := HF.out tb'
  rw [eab]
  have HEAB := Aside0.mk eab
  have H1 := Aside0.mk (And.intro ht' (And.intro hv' (And.intro hl' hnew)))
  have bu0 := (hb.block _ (Array.getElem?_eq_some_iff.1 HU0.out.1).1).trans HU0.out.1
  have bu1 := (hb.block _ (Array.getElem?_eq_some_iff.1 HU0.out.2.1).1).trans HU0.out.2.1
  have bu2 := (hb.block _ (Array.getElem?_eq_some_iff.1 HU0.out.2.2).1).trans HU0.out.2.2
  have HB1 := Aside0.mk (T.belowAt HB0.out hb)
  have HU1 := Aside0.mk (And.intro bu0 (And.intro bu1 bu2))
  have m0 : w1.cell? ⟨w.heap.size, 0, none⟩ = some (.slice A0 N0 c0) := by rw [blk_cell bu0]; rfl
  have m1 : w1.cell? ⟨w.heap.size, 1, none⟩ = some (.slice A1 N1 c1) := by rw [blk_cell bu0]; rfl
  have m2 : w1.cell? ⟨w.heap.size, 2, none⟩ = some (.slice A2 N2 c2) := by rw [blk_cell bu0]; rfl
  have m3 : w1.cell? ⟨w.heap.size, 3, none⟩ = some (.slice A3 N3 c3) := by rw [blk_cell bu0]; rfl
  have m4 : w1.cell? ⟨w.heap.size, 4, none⟩ = some (.slice A4 N4 c4) := by rw [blk_cell bu0]; rfl
  have p2 : w1.cell? ⟨w.heap.size + 1, 2, none⟩ = some (.string a) := by rw [blk_cell bu1]; rfl
  have p3 : w1.cell? ⟨w.heap.size + 1, 3, none⟩ = some (.int .i64 v) := by rw [blk_cell bu1]; rfl
  clear QT HF eab ht' hv' hl' hnew hb bu0 bu1 bu2 HU0
  unfold ptr
  go_wp2_with fail
  go_at_call 40
  refine (QD.out _ HB1.out).mono ?_
  rintro e w2 ⟨t', old, b, nx', u0, u1, u2, u3, u4, rfl, ho, hk2, hd, HR, hb⟩
  have HKL := Aside0.mk ho
  obtain ⟨⟨B0, k0, d0, rfl⟩, ⟨B1, k1, d1, rfl⟩, ⟨B2, k2, d2, rfl⟩, ⟨B3, k3, d3, rfl⟩, ⟨B4, k4, d4, rfl⟩⟩ := HR.out.here.forms
  have hwas := was_del HT.out.1.fine.toGood HT.out.1.vals HT.out.2.1.toRok HT.out.2.2 hd tb'
  rw [HO.out, HEAB.out] at hwas
  injection hwas with hwas
  injection hwas with hwas
  injection hwas with _ hwas
  injection hwas with eoa hwas
  injection hwas with eob _
  injection eob with eob
  subst eoa
  subst eob
  have HB2 := Aside0.mk (T.belowAt HB1.out hb)
  have HU2 := Aside0.mk ((hb.block _ (Array.getElem?_eq_some_iff.1 HU1.out.2.2).1).trans HU1.out.2.2)
  have HTr := Aside0.mk (H1.out.1.keep (T.Kept.of hb))
  have H2 := Aside0.mk (And.intro hk2 hd)
  clear ho hk2 hd hb m0 m1 m2 m3 m4 p2 p3 QD
  obtain ⟨C, eC⟩ : ∃ C, w2.heap.size = C := ⟨_, rfl⟩
  have hC : w.heap.size + 1 + 1 < C := by rw [← eC]; exact (Array.getElem?_eq_some_iff.1 HU2.out).1
  go_upto_region 7 with fail
  obtain ⟨W3, e3⟩ : ∃ W3, w2.alloc (Obj.cells #[.slice B0 k0 d0, .slice B1 k1 d1, .slice B2 k2 d2, .slice B3 k3 d3, .slice B4 k4 d4] 28) = W3 := ⟨_, rfl⟩
  have hu3 : W3.heap[C]? = some (.cells #[.slice B0 k0 d0, .slice B1 k1 d1, .slice B2 k2 d2, .slice B3 k3 d3, .slice B4 k4 d4] 28 (0, 0)) := by rw [← e3, ← eC]; exact World.alloc_heap_new w2 _
  have hz3 : W3.heap[w.heap.size + 1 + 1]? = some (.cells #[.slice none 0 0, .slice none 0 0, .slice none 0 0, .slice none 0 0, .slice none 0 0] 28 (0, 0)) := by rw [← e3]; exact (Below.heap_alloc _ _ _ (by omega)).trans HU2.out
  have hb23 : Below w2.heap.size w2 W3 := by rw [← e3]; exact (Below.refl _ w2).alloc (Nat.le_refl _) _
  have H3 := Aside0.mk (And.intro hb23 (And.intro hu3 hz3))
  rw [e3]
  clear e3 hb23 eC
  have z0 : W3.cell? ⟨C, 0, none⟩ = some (.slice B0 k0 d0) := by rw [blk_cell hu3]; rfl
  have z1 : W3.cell? ⟨C, 1, none⟩ = some (.slice B1 k1 d1) := by rw [blk_cell hu3]; rfl
  have z2 : W3.cell? ⟨C, 2, none⟩ = some (.slice B2 k2 d2) := by rw [blk_cell hu3]; rfl
  have z3 : W3.cell? ⟨C, 3, none⟩ = some (.slice B3 k3 d3) := by rw [blk_cell hu3]; rfl
  have z4 : W3.cell? ⟨C, 4, none⟩ = some (.slice B4 k4 d4) := by rw [blk_cell hu3]; rfl
  have q0 : W3.cell? ⟨w.heap.size + 1 + 1, 0, none⟩ = some (.slice none 0 0) := by rw [blk_cell hz3]; rfl
  have q1 : W3.cell? ⟨w.heap.size + 1 + 1, 1, none⟩ = some (.slice none 0 0) := by rw [blk_cell hz3]; rfl
  have q2 : W3.cell? ⟨w.heap.size + 1 + 1, 2, none⟩ = some (.slice none 0 0) := by rw [blk_cell hz3]; rfl
  have q3 : W3.cell? ⟨w.heap.size + 1 + 1, 3, none⟩ = some (.slice none 0 0) := by rw [blk_cell hz3]; rfl
  have q4 : W3.cell? ⟨w.heap.size + 1 + 1, 4, none⟩ = some (.slice none 0 0) := by rw [blk_cell hz3]; rfl
  have f0 : W3.frozen? ⟨w.heap.size + 1 + 1, 0, none⟩ = false := blk_frozen hz3 0
  have f1 : W3.frozen? ⟨w.heap.size + 1 + 1, 1, none⟩ = false := blk_frozen hz3 1
  have f2 : W3.frozen? ⟨w.heap.size + 1 + 1, 2, none⟩ = false := blk_frozen hz3 2
  have f3 : W3.frozen? ⟨w.heap.size + 1 + 1, 3, none⟩ = false := blk_frozen hz3 3
  have f4 : W3.frozen? ⟨w.heap.size + 1 + 1, 4, none⟩ = false := blk_frozen hz3 4
  clear hu3 hz3
  go_region
  go_wp2_with fail
  clear z0 z1 z2 z3 z4 q0 q1 q2 q3 q4 f0 f1 f2 f3 f4
  obtain ⟨W6, e5⟩ : ∃ W6, V.set5 W3 (w.heap.size + 1 + 1) (.slice B0 k0 d0) (.slice B1 k1 d1) (.slice B2 k2 d2) (.slice B3 k3 d3) (.slice B4 k4 d4) = W6 := ⟨_, rfl⟩
  have e6 : ((((W3.setCell { block := w.heap.size + 1 + 1, off := 0 } (.slice B0 k0 d0)).setCell { block := w.heap.size + 1 + 1, off := 1 } (.slice B1 k1 d1)).setCell { block := w.heap.size + 1 + 1, off := 2 } (.slice B2 k2 d2)).setCell { block := w.heap.size + 1 + 1, off := 3 } (.slice B3 k3 d3)).setCell { block := w.heap.size + 1 + 1, off := 4 } (.slice B4 k4 d4) = W6 := e5
  have hz6 := V.set5_at H3.out.2.2 (.slice B0 k0 d0) (.slice B1 k1 d1) (.slice B2 k2 d2) (.slice B3 k3 d3) (.slice B4 k4 d4)
  have hfar6 : ∀ k, k ≠ w.heap.size + 1 + 1 → W6.heap[k]? = W3.heap[k]? := fun k hk => by rw [← e5]; exact V.set5_far _ _ _ _ _ _ _ k hk
  have hsz6 : W6.heap.size = W3.heap.size := by rw [← e5]; simp [V.set5, T.size_setCell]
  have hb6 : Below w.heap.size w W6 := by rw [← e5]; exact V.set5_below (T.belowAt HB2.out H3.out.1) (by omega) _ _ _ _ _
  rw [e5] at hz6
  rw [e6]
  have q0 : W6.drew.cell? ⟨w.heap.size + 1 + 1, 0, none⟩ = some (.slice B0 k0 d0) := by show W6.cell? _ = _; rw [blk_cell hz6]; rfl
  have q1 : W6.drew.cell? ⟨w.heap.size + 1 + 1, 1, none⟩ = some (.slice B1 k1 d1) := by show W6.cell? _ = _; rw [blk_cell hz6]; rfl
  have q2 : W6.drew.cell? ⟨w.heap.size + 1 + 1, 2, none⟩ = some (.slice B2 k2 d2) := by show W6.cell? _ = _; rw [blk_cell hz6]; rfl
  have q3 : W6.drew.cell? ⟨w.heap.size + 1 + 1, 3, none⟩ = some (.slice B3 k3 d3) := by show W6.cell? _ = _; rw [blk_cell hz6]; rfl
  have q4 : W6.drew.cell? ⟨w.heap.size + 1 + 1, 4, none⟩ = some (.slice B4 k4 d4) := by show W6.cell? _ = _; rw [blk_cell hz6]; rfl
  refine bodyPost_ret (v := .tuple #[.pointer (some ⟨tb', 0, none⟩), .agg #[.slice B0 k0 d0, .slice B1 k1 d1, .slice B2 k2 d2, .slice B3 k3 d3, .slice B4 k4 d4], .int .i64 nx', .bool true]) (by simp [results, Try.results46, go_sem, q0, q1, q2, q3, q4]) rfl ?_
  have hd6 : Below W6.heap.size W6 W6.drew := below_drew (Below.refl _ _)
  have hfr : V.Far (w.heap.size + 1 + 1) W3 W6 := ⟨⟨_, _, _, _, _, H3.out.2.2, by simp⟩, fun k h _ => hfar6 k h⟩
  have htr : Tr W6.drew tb' root' := (V.far_tr hfr (HTr.out.keep (T.Kept.of H3.out.1))).keep (T.Kept.of hd6)
  have hro : RtOff (fun k => w.heap.size ≤ k ∧ k ≤ w.heap.size + 1 + 1) W3 t' (.slice B0 k0 d0) (.slice B1 k1 d1) (.slice B2 k2 d2) (.slice B3 k3 d3) (.slice B4 k4 d4) := (HR.out.below H3.out.1).imp (fun k hk h => .inl ⟨h, by have := HB1.out.size; have h9 := (Array.getElem?_eq_some_iff.1 HU1.out.2.2).1; omega⟩)
  have hrt : RtAt W6 t' (.slice B0 k0 d0) (.slice B1 k1 d1) (.slice B2 k2 d2) (.slice B3 k3 d3) (.slice B4 k4 d4) := (RtOff.set (M := fun k => w.heap.size ≤ k ∧ k ≤ w.heap.size + 1 + 1) hro (fun k hk => hk) (b := w.heap.size + 1 + 1) ⟨by omega, by omega⟩ hsz6 hfar6).here
  refine ⟨tb', root', t', old, ob, nx', _, _, _, _, _, rfl, htr, hrt.below hd6, H2.out.1, ?_, ?_, by have := H1.out.2.2.1; omega, ⟨fun hm => by have h9 := H1.out.2.2.2; rwa [if_neg (by rw [← HO.out]; exact agree_mem HT.out.1.fine.toGood HT.out.1.vals HT.out.2.1.toRok HT.out.2.2 hm)] at h9, fun hm => by have h9 := H1.out.2.2.2; rwa [if_pos (by rw [← HO.out]; exact agree_out HT.out.1.fine.toGood HT.out.1.vals HT.out.2.1.toRok HT.out.2.2 hm)] at h9⟩, T.belowAt hb6 hd6⟩
  · exact agree_out_of HT.out.1.fine HT.out.1.vals H1.out.1.fine H1.out.1.vals HT.out.2.1.toRok H2.out.1.toRok HT.out.2.2 H2.out.2 H1.out.2.1
  · exact HKL.out
end Go.Proofs.Ytjhgknagmiekeaa.N
set_option linter.unusedVariables false
set_option linter.unusedSimpArgs false
namespace Go.Proofs.Ytjhgknagmiekeaa.T
open Go.RowKit Go.Lib Go.Proofs Go.Proofs.YtjhgknagmiekeaaW.PrintWords
def kAB : ByteArray := ⟨#[97, 98]⟩
def kABC : ByteArray := ⟨#[97, 98, 99]⟩
def kAX : ByteArray := ⟨#[97, 120]⟩
def kC : ByteArray := ⟨#[99]⟩
def kA : ByteArray := ⟨#[97]⟩
def kB : ByteArray := ⟨#[98]⟩
def kX : ByteArray := ⟨#[120]⟩
def sh0 (b : Nat) (m : Value) : Nd := .mk b ⟨#[]⟩ none [] m
def sh1 (b b1 : Nat) (l0 : Lf) (m m1 : Value) : Nd := .mk b ⟨#[]⟩ none [.mk b1 kAB (some l0) [] m1] m
def sh2 (b b1 b2 : Nat) (l0 l1 : Lf) (m m1 m2 : Value) : Nd := .mk b ⟨#[]⟩ none [.mk b1 kAB (some l0) [.mk b2 kC (some l1) [] m2] m1] m
def sh3 (b b1 b2 b3 b4 : Nat) (l0 l1 l2 : Lf) (m m1 m2 m3 m4 : Value) : Nd := .mk b ⟨#[]⟩ none [.mk b3 kA none [.mk b1 kB (some l0) [.mk b2 kC (some l1) [] m2] m1, .mk b4 kX (some l2) [] m4] m3] m
theorem step1 (b : Nat) (m : Value) (l : Lf) (ns : Sup) : insN (sh0 b m) kAB l ns = sh1 (ns 0).1 (ns 1).1 l (ns 0).2 (ns 1).2 := by
  rw [insN, dif_neg (by decide)]
  rfl
theorem step2 (b b1 : Nat) (l0 : Lf) (m m1 : Value) (l : Lf) (ns : Sup) : insN (sh1 b b1 l0 m m1) kABC l ns = sh2 (ns 0).1 (ns 1).1 (ns 2).1 l0 l (ns 0).2 (ns 1).2 (ns 2).2 := by
  have e1 : kidN (sh1 b b1 l0 m m1) kABC = some (.mk b1 kAB (some l0) [] m1) := rfl
  have e2 : insN (.mk b1 kAB (some l0) [] m1) kC l (fun j => ns (j + 1)) = .mk (ns 1).1 kAB (some l0) [.mk (ns 2).1 kC (some l) [] (ns 2).2] (ns 1).2 := by
    rw [insN, dif_neg (by decide)]
    rfl
  have e3 : kABC.extract (comB kAB kABC) kABC.size = kC := by decide
  rw [insN, dif_neg (by decide)]
  simp only [e1]
  have e4 : 0 < comB (Nd.mk b1 kAB (some l0) [] m1).label kABC ∧ comB (Nd.mk b1 kAB (some l0) [] m1).label kABC = (Nd.mk b1 kAB (some l0) [] m1).label.size := by
    show 0 < comB kAB kABC ∧ comB kAB kABC = kAB.size
    decide
  rw [dif_pos e4]
  have e5 : kABC.extract (comB (Nd.mk b1 kAB (some l0) [] m1).label kABC) kABC.size = kC := e3
  rw [e5, e2]
  rfl
theorem step3 (b b1 b2 : Nat) (l0 l1 : Lf) (m m1 m2 : Value) (l : Lf) (ns : Sup) : insN (sh2 b b1 b2 l0 l1 m m1 m2) kAX l ns = sh3 (ns 0).1 (ns 2).1 b2 (ns 1).1 (ns 3).1 l0 l1 l (ns 0).2 m1 m2 (ns 1).2 (ns 3).2 := by
  have e1 : kidN (sh2 b b1 b2 l0 l1 m m1 m2) kAX = some (.mk b1 kAB (some l0) [.mk b2 kC (some l1) [] m2] m1) := rfl
  rw [insN, dif_neg (by decide)]
  simp only [e1]
  have e4 : ¬ (0 < comB (Nd.mk b1 kAB (some l0) [.mk b2 kC (some l1) [] m2] m1).label kAX ∧ comB (Nd.mk b1 kAB (some l0) [.mk b2 kC (some l1) [] m2] m1).label kAX = (Nd.mk b1 kAB (some l0) [.mk b2 kC (some l1) [] m2] m1).label.size) := by
    show ¬ (0 < comB kAB kAX ∧ comB kAB kAX = kAB.size)
    decide
  rw [dif_neg e4]
  rfl
theorem had1 (b : Nat) (m : Value) : findN (sh0 b m) kAB = none := by
  rw [findN, dif_neg (by decide)]
  rfl
theorem had2 (b b1 : Nat) (l0 : Lf) (m m1 : Value) : findN (sh1 b b1 l0 m m1) kABC = none := by
  have e1 : kidN (sh1 b b1 l0 m m1) kABC = some (.mk b1 kAB (some l0) [] m1) := rfl
  have e2 : findN (.mk b1 kAB (some l0) [] m1) kC = none := by
    rw [findN, dif_neg (by decide)]
    rfl
  rw [findN, dif_neg (by decide)]
  simp only [e1]
  have e4 : 0 < comB (Nd.mk b1 kAB (some l0) [] m1).label kABC ∧ comB (Nd.mk b1 kAB (some l0) [] m1).label kABC = (Nd.mk b1 kAB (some l0) [] m1).label.size := by
    show 0 < comB kAB kABC ∧ comB kAB kABC = kAB.size
    decide
  have e5 : kABC.extract (comB (Nd.mk b1 kAB (some l0) [] m1).label kABC) kABC.size = kC := by
    show kABC.extract (comB kAB kABC) kABC.size = kC
    decide
  rw [dif_pos e4, e5, e2]
theorem had3 (b b1 b2 : Nat) (l0 l1 : Lf) (m m1 m2 : Value) : findN (sh2 b b1 b2 l0 l1 m m1 m2) kAX = none := by
  have e1 : kidN (sh2 b b1 b2 l0 l1 m m1 m2) kAX = some (.mk b1 kAB (some l0) [.mk b2 kC (some l1) [] m2] m1) := rfl
  rw [findN, dif_neg (by decide)]
  simp only [e1]
  have e4 : ¬ (0 < comB (Nd.mk b1 kAB (some l0) [.mk b2 kC (some l1) [] m2] m1).label kAX ∧ comB (Nd.mk b1 kAB (some l0) [.mk b2 kC (some l1) [] m2] m1).label kAX = (Nd.mk b1 kAB (some l0) [.mk b2 kC (some l1) [] m2] m1).label.size) := by
    show ¬ (0 < comB kAB kAX ∧ comB kAB kAX = kAB.size)
    decide
  rw [dif_neg e4]
theorem long3 (b b1 b2 b3 b4 : Nat) (l0 l1 l2 : Lf) (m m1 m2 m3 m4 : Value) : longN (sh3 b b1 b2 b3 b4 l0 l1 l2 m m1 m2 m3 m4) ⟨#[97, 98, 100]⟩ = some l0 := by kernel_rfl
theorem reach3 (b b1 b2 b3 b4 : Nat) (l0 l1 l2 : Lf) (m m1 m2 m3 m4 : Value) : reachN (sh3 b b1 b2 b3 b4 l0 l1 l2 m m1 m2 m3 m4) ⟨#[97, 121]⟩ = 1 := by kernel_rfl
end Go.Proofs.Ytjhgknagmiekeaa.T
set_option linter.unusedVariables false
set_option linter.unusedSimpArgs false
namespace Go.Proofs.Ytjhgknagmiekeaa.T
open Go.RowKit Go.Lib Go.Proofs Go.Proofs.YtjhgknagmiekeaaW.PrintWords
def key3 : Nat → ByteArray
  | 0 => kAB
  | 1 => kABC
  | _ => kAX
def Shape : Nat → Nd → Prop
  | 0, r => ∃ b m, r = sh0 b m
  | 1, r => ∃ b b1 l0 m m1, r = sh1 b b1 l0 m m1 ∧ l0.key = kAB ∧ l0.val = .int .i64 7
  | 2, r => ∃ b b1 b2 l0 l1 m m1 m2, r = sh2 b b1 b2 l0 l1 m m1 m2 ∧ l0.key = kAB ∧ l0.val = .int .i64 7
  | _, r => ∃ b b1 b2 b3 b4 l0 l1 l2 m m1 m2 m3 m4, r = sh3 b b1 b2 b3 b4 l0 l1 l2 m m1 m2 m3 m4 ∧ l0.key = kAB ∧ l0.val = .int .i64 7
theorem shape_next (i : Nat) (hi : i < 3) (r : Nd) (h : Shape i r) : findN r (key3 i) = none ∧ ∀ (l : Lf) ns, l.key = key3 i → l.val = .int .i64 (7 + (i : Int)) → Shape (i + 1) (insN r (key3 i) l ns) := by
  match i, hi, h with
  | 0, _, h =>
    obtain ⟨b, m, rfl⟩ := h
    exact ⟨had1 b m, fun l ns h1 h2 => ⟨_, _, l, _, _, step1 b m l ns, h1, h2⟩⟩
  | 1, _, h =>
    obtain ⟨b, b1, l0, m, m1, rfl, h1, h2⟩ := h
    exact ⟨had2 _ _ _ _ _, fun l ns _ _ => ⟨_, _, _, l0, l, _, _, _, step2 _ _ _ _ _ _ _, h1, h2⟩⟩
  | 2, _, h =>
    obtain ⟨b, b1, b2, l0, l1, m, m1, m2, rfl, h1, h2⟩ := h
    exact ⟨had3 _ _ _ _ _ _ _ _, fun l ns _ _ => ⟨_, _, _, _, _, l0, l1, l, _, _, _, _, _, step3 _ _ _ _ _ _ _ _ _ _, h1, h2⟩⟩
theorem key3_size (i : Nat) : (key3 i).size < 4000000000000 := by
  match i with
  | 0 => decide
  | 1 => decide
  | n + 2 => show kAX.size < _; decide
def threeO : Obj := .cells #[.string ⟨#[97, 98]⟩, .string ⟨#[97, 98, 99]⟩, .string ⟨#[97, 120]⟩] 9
theorem three_cell {w : World} {g : Nat} (h : w.heap[g]? = some threeO) (i : Nat) (hi : i < 3) : w.cell? ⟨g, i, none⟩ = some (.string (key3 i)) := by
  unfold threeO at h
  rw [blk_cell h]
  match i, hi with
  | 0, _ => rfl
  | 1, _ => rfl
  | 2, _ => rfl
set_option maxHeartbeats 8000000 in
set_option maxRecDepth 100000 in
theorem alive (w : World) : Calls Try.prog 36 #[] w fun e w' => e = .returned (.bool true) ∧ Below w.heap.size w w' := by
  have q0 := Aside0.mk (treeNew w)
  go_enter Try.func36, Try.ntmps36
  go_wp2_with (go_at_call 45; refine q0.out.mono ?_)
  rintro e w1 ⟨tb, b, m, rfl, ht, hm, hb1, hb2, hB⟩
  have q1 := Aside0.mk (treeLen w1 tb (emptyN b m) 0 ht)
  have H1 := Aside0.mk (And.intro ht hB)
  clear ht hm hb1 hb2 hB q0
  unfold ptr at q1 ⊢
  go_wp2_with (go_at_call 50; refine q1.out.mono ?_; rintro e w2 ⟨rfl, hw2⟩; subst hw2)
  clear q1
  have ht0 := H1.out.1.keep (Kept.of ((Below.refl _ w2).alloc (Nat.le_refl _) threeO))
  have HT0 := Aside0.mk ht0
  clear ht0
  go_loopg [1, 20] 4 (fun kq v1 v20 w' => ∃ (i tb : Nat) (root : Nd), v1 = .pointer (some ⟨tb, 0, none⟩) ∧ v20 = .int .i64 (i : Int) ∧ Aside0 (i + kq = 4 ∧ i ≤ 3) ∧ Aside0 (TrAt w' tb root i ∧ Good root ∧ Shape i root) ∧ Aside0 (w'.heap[w2.heap.size]? = some threeO ∧ Below w.heap.size w w'))
  case atStart => exact ⟨0, tb, emptyN b m, rfl, rfl, ⟨by omega⟩, ⟨HT0.out, good_empty b m, ⟨b, m, rfl⟩⟩, ⟨heap_alloc_new w2 _, H1.out.2.alloc H1.out.2.size _⟩⟩
  case round =>
    obtain ⟨i, tb, root, rfl, rfl, HI, HT, HB⟩ := hrel
    by_cases hi : i < 3
    · have cc := three_cell HB.out.1 i hi
      have hsn := shape_next i hi root HT.out.2.2
      have q2 := treeInsert wr tb root (i : Int) (7 + (i : Int)) (key3 i) HT.out.1 HT.out.2.1.ok HT.out.2.1.sm (key3_size i) (by omega) (by omega)
      have HSN := Aside0.mk hsn
      have hks := key3_size i
      rw [hsn.1] at q2
      obtain ⟨k, ek⟩ : ∃ k, key3 i = k := ⟨_, rfl⟩
      rw [ek] at q2 cc HSN hks
      have q3 := Aside0.mk q2
      clear hsn q2 ek
      unfold ptr at q3
      go_wp2_with (go_at_call 43; refine q3.out.mono ?_)
      rintro e w3 ⟨tb2, lb, m2, ns, had, old, rfl, ht, ho, h1, h2, h3, h4, h5⟩
      have eh : had = false := by simpa [hadOld] using congrArg Prod.fst ho
      subst eh
      have H2 := Aside0.mk (And.intro ht h5)
      clear ht ho h1 h2 h3 h4 h5 q3
      go_wp2_with fail
      go_roundg (3 - i)
      case measure => have := HI.out; omega
      case rel =>
        refine ⟨i + 1, tb2, _, rfl, by simp, ⟨by have := HI.out; omega⟩, ⟨?_, good_ins HT.out.2.1 k hks ⟨lb, k, .int .i64 (7 + (i : Int)), m2⟩ rfl ns, HSN.out.2 _ ns rfl rfl⟩, ⟨(Kept.of H2.out.2).at HB.out.1, HB.out.2.trans ⟨H2.out.2.os, H2.out.2.tape, H2.out.2.output, H2.out.2.size, fun x hx => H2.out.2.block x (by have := HB.out.2.size; omega)⟩⟩⟩
        have := H2.out.1
        exact this
    · have hi3 : i = 3 := by have := HI.out; omega
      subst hi3
      obtain ⟨b0, b1, b2, b3, b4, l0, l1, l2, m0, m1, m2, m3, m4, er, ek, ev⟩ := HT.out.2.2
      have q2 := treeLongest wr tb root 3 ⟨#[97, 98, 100]⟩ HT.out.1 HT.out.2.1.ok HT.out.2.1.sm HT.out.2.1.top (by decide)
      have el : longN root ⟨#[97, 98, 100]⟩ = some l0 := by rw [er]; exact long3 _ _ _ _ _ _ _ _ _ _ _ _ _
      have et : toldV (some l0) = .tuple #[.string ⟨#[97, 98]⟩, .int .i64 7, .bool true] := by show Value.tuple #[.string l0.key, l0.val, .bool true] = _; rw [ek, ev]; rfl
      rw [el, et] at q2
      have ere : reachN root ⟨#[97, 121]⟩ = 1 := by rw [er]; exact reach3 _ _ _ _ _ _ _ _ _ _ _ _ _
      have HE := Aside0.mk ere
      have q3 := Aside0.mk q2
      clear q2 el et er ek ev ere
      unfold ptr at q3
      go_wp2_with (go_at_call 33; refine q3.out.mono ?_)
      rintro e w3 ⟨rfl, B3⟩
      have ht3 := HT.out.1.keep (Kept.of B3)
      have q4 := Aside0.mk (treeLen w3 tb root 3 ht3)
      have q5 := treeReach w3 tb root 3 ⟨#[97, 121]⟩ ht3 HT.out.2.1.ok HT.out.2.1.sm HT.out.2.1.top (by decide)
      rw [HE.out] at q5
      have exr : (⟨#[97, 121]⟩ : ByteArray).extract 0 1 = ⟨#[97]⟩ := by decide
      rw [exr] at q5
      have q6 := Aside0.mk q5
      have HB3 := Aside0.mk B3
      clear B3 ht3 q5 q3 exr
      unfold ptr at q4 q6
      go_wp2_with (first
        | (go_at_call 50; refine q4.out.mono ?_; rintro e w4 ⟨rfl, hw4⟩; subst hw4)
        | (go_at_call 89; refine q6.out.mono ?_; rintro e w5 ⟨rfl, _, B5⟩; have HB5 := Aside0.mk B5; clear B5))
      go_ret
      have hs3 := HB.out.2.size
      exact ⟨rfl, (HB.out.2.trans ⟨HB3.out.os, HB3.out.tape, HB3.out.output, HB3.out.size, fun x hx => HB3.out.block x (by omega)⟩).trans ⟨HB5.out.os, HB5.out.tape, HB5.out.output, HB5.out.size, fun x hx => HB5.out.block x (by have := HB3.out.size; omega)⟩⟩
end Go.Proofs.Ytjhgknagmiekeaa.T
set_option linter.unusedVariables false
set_option linter.unusedSimpArgs false
namespace Go.Proofs.Ytjhgknagmiekeaa.N
open Go.RowKit Go.Lib Go.Proofs
open Go.Proofs.Ytjhgknagmiekeaa.K Go.Proofs.YtjhgknagmiekeaaW.PrintLast
open Go.Proofs.YtjhgknagmiekeaaW.PrintWords hiding Kept
open Go.Proofs.Ytjhgknagmiekeaa.T (L Nd Fine IntVals valT wasV All findT Tr ptr cntF cntN onC bls emptyN Strs numV lastI)
open Go.Proofs.Ytjhgknagmiekeaa.F (insF delF Anew Kb freshC paths_len paths_on kn_self bls_cells)
theorem newF (w : World) : Calls Try.prog 45 #[] w fun e w' => ∃ tb root, e = .returned (ptr tb) ∧ Tr w' tb root ∧ All root = [] ∧ (∀ b ∈ bls root, w.heap.size ≤ b) ∧ Below w.heap.size w w' := by
  refine (T.treeNew w).mono ?_
  rintro e w' ⟨tb, b, m, rfl, h1, h2, h3, h4, h5⟩
  refine ⟨tb, emptyN b m, rfl, ⟨by rw [T.all_empty]; exact h1, T.fine_empty b m, T.vals_empty b m⟩, T.all_empty b m, fun x hx => ?_, h5⟩
  have hx2 : x ∈ [b] := by simpa [emptyN, T.bls, T.blss] using hx
  rw [List.mem_singleton.1 hx2]
  exact h3
theorem fresh_self (W : World) (tb : Nat) (root : Nd) (h : Tr W tb root) (hs : (All root).length < 1000000000000) : Calls Try.prog 44 #[ptr tb, ptr tb] W fun e w' => e = .returned (.int .i64 0) ∧ Below W.heap.size W w' := by
  refine (freshC W tb tb root root h h hs hs).mono ?_
  rintro e w' ⟨rfl, hb⟩
  refine ⟨?_, hb⟩
  rw [show cntF (fun b => decide (b ∈ bls root)) root = 0 from (kn_self root).zero]
  rfl
theorem fresh_all (W0 W : World) (t0 tb : Nat) (r0 root : Nd) (h0 : Tr W t0 r0) (hl : All r0 = []) (hn : ∀ b ∈ bls r0, W0.heap.size ≤ b) (hr : T.NdAt W0 root) (h : Tr W tb root) (hs : (All root).length < 1000000000000) : Calls Try.prog 44 #[ptr t0, ptr tb] W fun e w' => e = .returned (.int .i64 (cntN root : Nat)) ∧ Below W.heap.size W w' := by
  refine (freshC W t0 tb r0 root h0 h (by rw [hl]; decide) hs).mono ?_
  rintro e w' ⟨rfl, hb⟩
  refine ⟨?_, hb⟩
  rw [T.cntF_all root (fun b hb => decide_eq_false (fun hm => ?_))]
  have h1 := hn b hm
  obtain ⟨cs, t, e⟩ := bls_cells root hr hb
  have := (Array.getElem?_eq_some_iff.1 e).1
  omega
def fr_T : Bool × List (List Nat × List Nat) := (true, [([], []), ([0], [0]), ([1], [1]), ([2], [2]), ([2], [2]), ([3, 4, 2, 2], [2, 3, 4]), ([5, 2], [2, 5]), ([2, 6], [2, 6]), ([7, 5], [7]), ([8, 8], [8]), ([8], [8]), ([9, 10, 9, 8], [8, 9, 10]), ([8], [8]), ([12, 8], [8, 12]), ([13, 8], [8, 13]), ([11, 14, 8], [8, 11, 14]), ([8, 15], [8, 15])])
def fr_B : List Nat := [0, 1, 3, 7, 7, 31, 63, 127, 255, 511, 511, 2047, 511, 4607, 12799, 32767, 65535]
theorem fr_bits : waitsOk fr_T.2 fr_B = true := by kernel_rfl
theorem fr_tab : rtab .any (opsOf Try.f12 5) = fr_T := by kernel_rfl
attribute [local go_sem] Oper.semAt_some
set_option maxRecDepth 100000 in
set_option maxHeartbeats 4000000 in
theorem freshLaw (A : Option Addr) (c : Nat) (ks : List ByteArray) (a : ByteArray) (drop : Bool) (w : World) (hA : Strs w A ks) (hlen : ks.length < 1000000000) (hs : ∀ k ∈ ks, k.size < 4000000000000) (ha : a.size < 4000000000000) :
    Calls Try.prog 12 #[.slice A ks.length c, .string a, .bool drop] w fun e w' => e = .returned (.bool true) ∧ Below w.heap.size w w' := by
  have qa := Aside0.mk (T.alive w)
  have qb := Aside0.mk (fun w1 (h : Below w.heap.size w w1) => T.builtC w1 A c ks (hA.keep (T.Kept.of h)) (by omega) hs)
  have qm := Aside0.mk (fun w1 (h : Below w.heap.size w w1) => modelledC w1 A c ks (hA.keep (T.Kept.of h)) (by omega) hs)
  have HS := Aside0.mk hs
  obtain ⟨n, en⟩ : ∃ n, ks.length = n := ⟨_, rfl⟩
  rw [en] at qb qm hlen ⊢
  have HN := Aside0.mk en
  clear hA hs en
  unfold ptr at qb
  go_enter Try.func12, Try.ntmps12
  go_wp2_with fail
  go_at_call 36
  refine qa.out.mono ?_
  rintro e w0 ⟨rfl, hb0⟩
  have HB0 := Aside0.mk hb0
  clear hb0 qa
  go_wp2_with fail
  go_at_call 37
  refine (qb.out _ HB0.out).mono ?_
  rintro e w1 ⟨tb, root, rfl, ht, hv, hl, hb⟩
  have HB1 := Aside0.mk (T.belowAt HB0.out hb)
  have H1 := Aside0.mk (And.intro ht (And.intro hv hl))
  clear ht hv hl hb qb
  go_wp2_with fail
  go_at_call 38
  refine (qm.out _ HB1.out).mono ?_
  rintro e w2 ⟨t, v0, v1, v2, v3, v4, rfl, hm, hok, hag, hl, hb⟩
  obtain ⟨⟨E0, y0, g0, rfl⟩, ⟨E1, y1, g1, rfl⟩, ⟨E2, y2, g2, rfl⟩, ⟨E3, y3, g3, rfl⟩, ⟨E4, y4, g4, rfl⟩⟩ := hm.forms
  have hy3 : y3 = t.ps.length := by obtain ⟨A', c', e, -⟩ := hm.a3; injection e
  have HB2 := Aside0.mk (T.belowAt HB1.out hb)
  have htr := H1.out.1.keep (T.Kept.of hb)
  have hag2 : Agree root t := by
    obtain ⟨g1, g2, g3⟩ := ghost_ok ks HS.out n (by rw [HN.out]; exact Nat.le_refl _)
    refine agree_of htr.fine.toGood htr.vals hok.toRok ((agreeF_of g1.toGood g2 hag).imp (fun q => ?_))
    rw [H1.out.2.1, g3]
    (try rw [HN.out])
  have H2 := Aside0.mk (And.intro htr (And.intro hok (And.intro hag2 (And.intro hm hl))))
  have hp : y3 = cntN root := by rw [hy3]; exact paths_len htr.fine htr.vals hok hag2
  have HY := Aside0.mk (And.intro hy3 hp)
  clear hm hok hag hl hb htr hag2 qm hy3 hp
  obtain ⟨C, eC⟩ : ∃ C, w2.heap.size = C := ⟨_, rfl⟩
  go_upto_region 5 with fail
  obtain ⟨W3, e3⟩ : ∃ W3, w2.alloc (Obj.cells #[.slice E0 y0 g0, .slice E1 y1 g1, .slice E2 y2 g2, .slice E3 y3 g3, .slice E4 y4 g4] 28) = W3 := ⟨_, rfl⟩
  have hu3 : W3.heap[C]? = some (.cells #[.slice E0 y0 g0, .slice E1 y1 g1, .slice E2 y2 g2, .slice E3 y3 g3, .slice E4 y4 g4] 28 (0, 0)) := by rw [← e3, ← eC]; exact World.alloc_heap_new w2 _
  have hb23 : Below w2.heap.size w2 W3 := by rw [← e3]; exact (Below.refl _ w2).alloc (Nat.le_refl _) _
  have hC : w.heap.size ≤ C := by rw [← eC]; exact HB2.out.size
  have H3 := Aside0.mk (And.intro hu3 (And.intro (T.belowAt HB2.out hb23) (And.intro (H2.out.1.keep (T.Kept.of hb23)) (H2.out.2.2.2.1.below hb23))))
  have hAl : (All root).length < 1000000000000 := by have := H1.out.2.2; have := HN.out; omega
  have HAl := Aside0.mk hAl
  rw [e3]
  clear e3 hb23 eC hAl
  have c0 : W3.cell? ⟨C, 3, none⟩ = some (.slice E3 y3 g3) := by rw [blk_cell hu3]; rfl
  clear hu3
  have HBd := Aside0.mk (below_drew (Below.refl W3.heap.size W3))
  have q1 := Aside0.mk (fun W (h : Below W3.heap.size W3 W) => fresh_self W tb root (H3.out.2.2.1.keep (T.Kept.of h)) HAl.out)
  have q3 := Aside0.mk (fun W t0 r0 (h : Below W3.heap.size W3 W) (h0 : Tr W t0 r0) (hl : All r0 = []) (hn : ∀ b ∈ bls r0, W3.heap.size ≤ b) => fresh_all W3 W t0 tb r0 root h0 hl hn H3.out.2.2.1.at_.root (H3.out.2.2.1.keep (T.Kept.of h)) HAl.out)
  have q2 := Aside0.mk (fun W => newF W)
  unfold ptr at q1 q2 q3
  have hyI : y3 = cntN root := HY.out.2
  rw [← hyI] at q3
  clear hyI
  refine start_ (n := 17) (S := (fun Z => Z.cell? ⟨C, 3, none⟩ = some (.slice E3 y3 g3))) (ds := []) #[false, false, false, false, false, false, false, false, false, false, false, false, false, false, false, false, false] (by kernel_rfl) rfl rfl c0 (fun hHeld => ?_); refine with_tabW fr_tab fr_bits (fun HT_ HW_ => ?_)
  refine pure_ (i := 0) (N := some 23) (v := ?_) (a' := ?_) #[true, false, false, false, false, false, false, false, false, false, false, false, false, false, false, false, false] rfl rfl (any_of HT_.out (by kernel_rfl)) (fun _ _ _ h => h) (Or.inl ⟨by rfl, ?_⟩) ?_ ?_
  rotate_left
  · intro w'
    go_simp
    with_reducible rfl
  rotate_left
  · simp only [Act.put, List.setIfInBounds_toArray, List.set_cons_zero, List.set_cons_succ, i64_w, i32_w]
    rfl
  refine pure_ (i := 1) (N := some 24) (v := ?_) (a' := ?_) #[true, true, false, false, false, false, false, false, false, false, false, false, false, false, false, false, false] rfl rfl (any_of HT_.out (by kernel_rfl)) (fun _ _ _ h => h) (Or.inl ⟨by rfl, ?_⟩) ?_ ?_
  rotate_left
  · intro w'
    go_simp
    with_reducible rfl
  rotate_left
  · simp only [Act.put, List.setIfInBounds_toArray, List.set_cons_zero, List.set_cons_succ, i64_w, i32_w]
    rfl
  refine pure_ (i := 2) (N := some 25) (v := ?_) (a' := ?_) #[true, true, true, false, false, false, false, false, false, false, false, false, false, false, false, false, false] rfl rfl (any_of HT_.out (by kernel_rfl)) (fun _ _ _ h => h) (Or.inl ⟨by rfl, ?_⟩) ?_ ?_
  rotate_left
  · intro w'
    go_simp
    with_reducible rfl
  rotate_left
  · simp only [Act.put, List.setIfInBounds_toArray, List.set_cons_zero, List.set_cons_succ, i64_w, i32_w]
    rfl
  refine pure_ (i := 3) (N := some 26) (v := ?_) (a' := ?_) #[true, true, true, true, false, false, false, false, false, false, false, false, false, false, false, false, false] rfl rfl (any_of HT_.out (by kernel_rfl)) (fun _ _ _ h => h) (Or.inl ⟨by rfl, ?_⟩) ?_ ?_
  rotate_left
  · intro w'
    go_simp
    with_reducible rfl
  rotate_left
  · simp only [Act.put, List.setIfInBounds_toArray, List.set_cons_zero, List.set_cons_succ, i64_w, i32_w]
    rfl
  refine pure_ (i := 4) (N := some 27) (v := ?_) (a' := ?_) #[true, true, true, true, true, false, false, false, false, false, false, false, false, false, false, false, false] rfl rfl (any_of HT_.out (by kernel_rfl)) (fun _ _ _ h => h) (Or.inl ⟨by rfl, ?_⟩) ?_ ?_
  rotate_left
  · intro w'
    go_simp
    with_reducible rfl
  rotate_left
  · simp only [Act.put, List.setIfInBounds_toArray, List.set_cons_zero, List.set_cons_succ, i64_w, i32_w]
    rfl
  refine one_ (i := 5) (N := some 28) #[true, true, true, true, true, true, false, false, false, false, false, false, false, false, false, false, false] rfl rfl (one_of HT_.out (by kernel_rfl)) (by decide) (fun K hK => ?_)
  refine goes_ Try.func44 (by kernel_rfl) rfl #[.pointer (some ⟨tb, 0, none⟩), .pointer (some ⟨tb, 0, none⟩)] (by rfl) rfl rfl (by (try simp only [List.map_toArray, List.map_cons, List.map_nil]); first | done | rfl) ?_
  refine (q1.out _ HBd.out).mono ?_
  rintro e w4 ⟨rfl, hb4⟩
  have HB4 := Aside0.mk (T.belowAt HBd.out hb4)
  clear hb4
  refine ⟨_, rfl, ?_⟩
  clear hHeld
  refine hK.out _ _ ((T.Kept.of HB4.out).cell c0) (fun hHeld => ?_)
  clear hK K
  refine norm_ (a' := ?_) ?_ ?_
  rotate_left
  · show Act.put _ (some 28) _ = _
    simp only [Act.put, List.setIfInBounds_toArray, List.set_cons_zero, List.set_cons_succ, i64_w, i32_w]
    rfl
  refine pure_ (i := 6) (N := some 29) (v := ?_) (a' := ?_) #[true, true, true, true, true, true, true, false, false, false, false, false, false, false, false, false, false] rfl rfl (any_of HT_.out (by kernel_rfl)) (fun _ _ _ h => h) (Or.inl ⟨by rfl, ?_⟩) ?_ ?_
  rotate_left
  · intro w'
    go_simp
    with_reducible rfl
  rotate_left
  · simp only [Act.put, List.setIfInBounds_toArray, List.set_cons_zero, List.set_cons_succ, i64_w, i32_w]
    rfl
  refine pure_ (i := 7) (N := some 30) (v := ?_) (a' := ?_) #[true, true, true, true, true, true, true, true, false, false, false, false, false, false, false, false, false] rfl rfl (any_of HT_.out (by kernel_rfl)) (fun _ _ _ h => h) (Or.inl ⟨by rfl, ?_⟩) ?_ ?_
  rotate_left
  · intro w'
    go_simp
    with_reducible rfl
  rotate_left
  · simp only [Act.put, List.setIfInBounds_toArray, List.set_cons_zero, List.set_cons_succ, i64_w, i32_w]
    rfl
  refine pure_ (i := 8) (N := some 31) (v := ?_) (a' := ?_) #[true, true, true, true, true, true, true, true, true, false, false, false, false, false, false, false, false] rfl rfl (any_of HT_.out (by kernel_rfl)) (fun _ _ _ h => h) (Or.inl ⟨by rfl, ?_⟩) ?_ ?_
  rotate_left
  · intro w'
    go_simp
    with_reducible rfl
  rotate_left
  · simp only [Act.put, List.setIfInBounds_toArray, List.set_cons_zero, List.set_cons_succ, i64_w, i32_w]
    rfl
  refine pure_ (i := 10) (N := some 33) (v := ?_) (a' := ?_) #[true, true, true, true, true, true, true, true, true, false, true, false, false, false, false, false, false] rfl rfl (any_of HT_.out (by kernel_rfl)) (fun _ _ _ h => h) (Or.inl ⟨by rfl, ?_⟩) ?_ ?_
  rotate_left
  · intro w'
    go_simp
    with_reducible rfl
  rotate_left
  · simp only [Act.put, List.setIfInBounds_toArray, List.set_cons_zero, List.set_cons_succ, i64_w, i32_w]
    rfl
  refine pure_ (i := 12) (N := some 35) (v := ?_) (a' := ?_) #[true, true, true, true, true, true, true, true, true, false, true, false, true, false, false, false, false] rfl rfl (any_of HT_.out (by kernel_rfl)) (fun _ _ _ h => h) (Or.inl ⟨by rfl, ?_⟩) ?_ ?_
  rotate_left
  · intro w'
    go_simp
    with_reducible rfl
  rotate_left
  · simp only [Act.put, List.setIfInBounds_toArray, List.set_cons_zero, List.set_cons_succ, i64_w, i32_w]
    rfl
  refine take_ (i := 13) (N := some 36) (v := ?_) (a' := ?_) #[true, true, true, true, true, true, true, true, true, false, true, false, true, true, false, false, false] rfl rfl (take_ofW HT_.out HW_.out (by kernel_rfl)) (fun _ _ _ h => h) (Or.inl ⟨by rfl, ?_⟩) hHeld ?_ ?_
  rotate_left
  · rintro w' s0
    go_simp
    with_reducible rfl
  rotate_left
  · simp only [Act.put, List.setIfInBounds_toArray, List.set_cons_zero, List.set_cons_succ, i64_w, i32_w]
    rfl
  refine pure_ (i := 14) (N := some 37) (v := ?_) (a' := ?_) #[true, true, true, true, true, true, true, true, true, false, true, false, true, true, true, false, false] rfl rfl (any_of HT_.out (by kernel_rfl)) (fun _ _ _ h => h) (Or.inl ⟨by rfl, ?_⟩) ?_ ?_
  rotate_left
  · intro w'
    go_simp
    with_reducible rfl
  rotate_left
  · simp only [Act.put, List.setIfInBounds_toArray, List.set_cons_zero, List.set_cons_succ, i64_w, i32_w]
    rfl
  refine one_ (i := 9) (N := some 32) #[true, true, true, true, true, true, true, true, true, true, true, false, true, true, true, false, false] rfl rfl (one_of HT_.out (by kernel_rfl)) (by decide) (fun K hK => ?_)
  refine goes_ Try.func45 (by kernel_rfl) rfl #[] (by rfl) rfl rfl (by (try simp only [List.map_toArray, List.map_cons, List.map_nil]); first | done | rfl) ?_
  refine (q2.out _).mono ?_
  rintro e w5 ⟨t0, r0, rfl, ht0, hl0, hn0, hb5⟩
  have HB5 := Aside0.mk (T.belowAt HB4.out hb5)
  have H5 := Aside0.mk (And.intro ht0 (And.intro hl0 (fun b hb => Nat.le_trans HB4.out.size (hn0 b hb))))
  clear hb5 ht0 hl0 hn0
  refine ⟨_, rfl, ?_⟩
  clear hHeld
  refine hK.out _ _ ((T.Kept.of HB5.out).cell c0) (fun hHeld => ?_)
  clear hK K
  refine norm_ (a' := ?_) ?_ ?_
  rotate_left
  · show Act.put _ (some 32) _ = _
    simp only [Act.put, List.setIfInBounds_toArray, List.set_cons_zero, List.set_cons_succ, i64_w, i32_w]
    rfl
  refine one_ (i := 11) (N := some 34) #[true, true, true, true, true, true, true, true, true, true, true, true, true, true, true, false, false] rfl rfl (one_of HT_.out (by kernel_rfl)) (by decide) (fun K hK => ?_)
  refine goes_ Try.func44 (by kernel_rfl) rfl #[.pointer (some ⟨t0, 0, none⟩), .pointer (some ⟨tb, 0, none⟩)] (by rfl) rfl rfl (by (try simp only [List.map_toArray, List.map_cons, List.map_nil]); first | done | rfl) ?_
  refine (q3.out _ _ _ HB5.out H5.out.1 H5.out.2.1 H5.out.2.2).mono ?_
  rintro e w6 ⟨rfl, hb6⟩
  have HB6 := Aside0.mk (T.belowAt HB5.out hb6)
  clear hb6
  refine ⟨_, rfl, ?_⟩
  clear hHeld
  refine hK.out _ _ ((T.Kept.of HB6.out).cell c0) (fun hHeld => ?_)
  clear hK K
  refine norm_ (a' := ?_) ?_ ?_
  rotate_left
  · show Act.put _ (some 34) _ = _
    simp only [Act.put, List.setIfInBounds_toArray, List.set_cons_zero, List.set_cons_succ, i64_w, i32_w]
    rfl
  refine pure_ (i := 15) (N := some 38) (v := ?_) (a' := ?_) #[true, true, true, true, true, true, true, true, true, true, true, true, true, true, true, true, false] rfl rfl (any_of HT_.out (by kernel_rfl)) (fun _ _ _ h => h) (Or.inl ⟨by rfl, ?_⟩) ?_ ?_
  rotate_left
  · intro w'
    go_simp
    with_reducible rfl
  rotate_left
  · simp only [Act.put, List.setIfInBounds_toArray, List.set_cons_zero, List.set_cons_succ, i64_w, i32_w]
    rfl
  refine pure_ (i := 16) (N := some 39) (v := ?_) (a' := ?_) #[true, true, true, true, true, true, true, true, true, true, true, true, true, true, true, true, true] rfl rfl (any_of HT_.out (by kernel_rfl)) (fun _ _ _ h => h) (Or.inl ⟨by rfl, ?_⟩) ?_ ?_
  rotate_left
  · intro w'
    go_simp
    with_reducible rfl
  rotate_left
  · simp only [Act.put, List.setIfInBounds_toArray, List.set_cons_zero, List.set_cons_succ, i64_w, i32_w]
    rfl
  refine done_ (done_of HT_.out (by kernel_rfl)) ?_
  clear hHeld c0 q1 q2 q3 HT_ HW_
  have bu6 := (HB6.out.block _ (Array.getElem?_eq_some_iff.1 H3.out.1).1).trans H3.out.1
  have hC6 : C < w6.heap.size := (Array.getElem?_eq_some_iff.1 bu6).1
  obtain ⟨D, eD⟩ : ∃ D, w6.heap.size = D := ⟨_, rfl⟩
  rw [eD] at hC6
  cases drop
  · skip
    go_upto_region 10 with fail
    obtain ⟨W7, e7⟩ : ∃ W7, w6.alloc (Obj.cells #[.int .i64 0, .int .i64 0, .string a, .int .i64 1] 67) = W7 := ⟨_, rfl⟩
    have bo7 : W7.heap[D]? = some (.cells #[.int .i64 0, .int .i64 0, .string a, .int .i64 1] 67 (0, 0)) := by rw [← e7, ← eD]; exact World.alloc_heap_new w6 _
    have bu7 : W7.heap[C]? = some (.cells #[.slice E0 y0 g0, .slice E1 y1 g1, .slice E2 y2 g2, .slice E3 y3 g3, .slice E4 y4 g4] 28 (0, 0)) := by rw [← e7]; exact (Below.heap_alloc _ _ _ (by omega)).trans bu6
    have HB7 : Aside0 (Below W3.heap.size W3 W7) := ⟨by rw [← e7]; exact HB6.out.alloc HB6.out.size _⟩
    have HU7 := Aside0.mk bu7
    have HUO := Aside0.mk bo7
    rw [e7]
    clear e7 eD
    have qg := Aside0.mk (grownI W7 tb root (H3.out.2.2.1.keep (T.Kept.of HB7.out)) t H2.out.2.1 H2.out.2.2.1 _ _ _ _ _ (H3.out.2.2.2.below HB7.out) a 0 1 0 ha (by have := H2.out.2.2.2.2; omega) HAl.out)
    unfold ptr at qg
    have m0 : W7.cell? ⟨C, 0, none⟩ = some (.slice E0 y0 g0) := by rw [blk_cell bu7]; rfl
    have m1 : W7.cell? ⟨C, 1, none⟩ = some (.slice E1 y1 g1) := by rw [blk_cell bu7]; rfl
    have m2 : W7.cell? ⟨C, 2, none⟩ = some (.slice E2 y2 g2) := by rw [blk_cell bu7]; rfl
    have m3 : W7.cell? ⟨C, 3, none⟩ = some (.slice E3 y3 g3) := by rw [blk_cell bu7]; rfl
    have m4 : W7.cell? ⟨C, 4, none⟩ = some (.slice E4 y4 g4) := by rw [blk_cell bu7]; rfl
    have o0 : W7.cell? ⟨D, 0, none⟩ = some (.int .i64 0) := by rw [blk_cell bo7]; rfl
    have o1 : W7.cell? ⟨D, 1, none⟩ = some (.int .i64 0) := by rw [blk_cell bo7]; rfl
    have o2 : W7.cell? ⟨D, 2, none⟩ = some (.string a) := by rw [blk_cell bo7]; rfl
    have o3 : W7.cell? ⟨D, 3, none⟩ = some (.int .i64 1) := by rw [blk_cell bo7]; rfl
    clear bu7 bo7
    go_wp2_with (go_at_call 46; refine qg.out.mono ?_)
    rintro e w8 ⟨tb2, root2, t2, old, b1, nx, u0, u1, u2, u3, u4, rfl, ht2, hm2, hok2, hag2, hk2, hl2, hpost, hb8⟩
    obtain ⟨⟨B0, k0, d0, rfl⟩, ⟨B1, k1, d1, rfl⟩, ⟨B2, k2, d2, rfl⟩, ⟨B3, k3, d3, rfl⟩, ⟨B4, k4, d4, rfl⟩⟩ := hm2.forms
    have H8 := Aside0.mk (And.intro ht2 (And.intro hm2 (And.intro hok2 (And.intro hag2 (And.intro hk2 (And.intro hl2 hpost))))))
    have HB8 := Aside0.mk (T.belowAt HB7.out hb8)
    have HU8 := Aside0.mk ((hb8.block _ (Array.getElem?_eq_some_iff.1 HU7.out).1).trans HU7.out)
    clear ht2 hm2 hok2 hag2 hk2 hl2 hpost hb8 m0 m1 m2 m3 m4 o0 o1 o2 o3 qg HU7 HUO
    obtain ⟨C2, eC2⟩ : ∃ C2, w8.heap.size = C2 := ⟨_, rfl⟩
    go_upto_region 13 with fail
    obtain ⟨W9, e9⟩ : ∃ W9, w8.alloc (Obj.cells #[.slice B0 k0 d0, .slice B1 k1 d1, .slice B2 k2 d2, .slice B3 k3 d3, .slice B4 k4 d4] 28) = W9 := ⟨_, rfl⟩
    have hb89 : Below w8.heap.size w8 W9 := by rw [← e9]; exact (Below.refl _ w8).alloc (Nat.le_refl _) _
    have hu9 : W9.heap[C2]? = some (.cells #[.slice B0 k0 d0, .slice B1 k1 d1, .slice B2 k2 d2, .slice B3 k3 d3, .slice B4 k4 d4] 28 (0, 0)) := by rw [← e9, ← eC2]; exact World.alloc_heap_new w8 _
    have HB9 := Aside0.mk (T.belowAt HB8.out hb89)
    have H9 := Aside0.mk (And.intro ((hb89.block _ (Array.getElem?_eq_some_iff.1 HU8.out).1).trans HU8.out) (And.intro hu9 (And.intro (H8.out.1.keep (T.Kept.of hb89)) (H8.out.2.1.below hb89))))
    rw [e9]
    clear e9 hb89 hu9 eC2 HU8
    have hAl2 : (All root2).length < 1000000000000 := by have := H1.out.2.2; have := H8.out.2.2.2.2.2.1; omega
    have qf := Aside0.mk (freshC W9 tb tb2 root root2 (H3.out.2.2.1.keep (T.Kept.of HB9.out)) H9.out.2.2.1 HAl.out hAl2)
    obtain ⟨nf, enf⟩ : ∃ nf, cntF (fun b => decide (b ∈ bls root)) root2 = nf := ⟨_, rfl⟩
    rw [enf] at qf
    have HNF := Aside0.mk enf
    unfold ptr at qf
    clear enf hAl2
    go_wp2_with fail
    go_at_call 44
    refine qf.out.mono ?_
    rintro e w10 ⟨rfl, hb10⟩
    have HB10 := Aside0.mk (T.belowAt HB9.out hb10)
    have HU10 := Aside0.mk (And.intro ((hb10.block _ (Array.getElem?_eq_some_iff.1 H9.out.1).1).trans H9.out.1) (And.intro ((hb10.block _ (Array.getElem?_eq_some_iff.1 H9.out.2.1).1).trans H9.out.2.1) (H9.out.2.2.2.below hb10)))
    have qt := Aside0.mk (getRtC w10 t H2.out.2.1.toRok (by have := H2.out.2.2.2.2; omega) _ _ _ _ _ (H3.out.2.2.2.below HB10.out) a)
    have bu10 := HU10.out.1
    have m0 : w10.cell? ⟨C, 0, none⟩ = some (.slice E0 y0 g0) := by rw [blk_cell bu10]; rfl
    have m1 : w10.cell? ⟨C, 1, none⟩ = some (.slice E1 y1 g1) := by rw [blk_cell bu10]; rfl
    have m2 : w10.cell? ⟨C, 2, none⟩ = some (.slice E2 y2 g2) := by rw [blk_cell bu10]; rfl
    have m3 : w10.cell? ⟨C, 3, none⟩ = some (.slice E3 y3 g3) := by rw [blk_cell bu10]; rfl
    have m4 : w10.cell? ⟨C, 4, none⟩ = some (.slice E4 y4 g4) := by rw [blk_cell bu10]; rfl
    clear bu10 hb10 qf
    go_wp2_with (go_at_call 47; refine qt.out.mono ?_)
    rintro e w11 ⟨x, b2, rfl, hb2, hb11⟩
    have HB11 := Aside0.mk (T.belowAt HB10.out hb11)
    have bu11 := (hb11.block _ (Array.getElem?_eq_some_iff.1 HU10.out.2.1).1).trans HU10.out.2.1
    have H11 := Aside0.mk (And.intro hb2 (And.intro bu11 (HU10.out.2.2.below hb11)))
    have hps : t2.ps.length < 1000000000000 := by have := H8.out.2.2.1.p; have := H8.out.2.2.2.2.1; have := H2.out.2.2.2.2; omega
    have HPS := Aside0.mk hps
    clear hb2 hb11 m0 m1 m2 m3 m4 qt hps bu11
    have HWW := Aside0.mk (T.belowAt H3.out.2.1 HB11.out)
    have han : ∃ o : Nat, onP t2.ps a = o ∧ (o = nf ∨ o + 1 = nf) ∧ o < 1000000000000 := by
      obtain ⟨ee, he1, he2⟩ := H8.out.2.2.2.2.2.2
      have h9 := paths_on H8.out.1.fine H8.out.1.vals H8.out.2.2.1 H8.out.2.2.2.1 (L a)
      refine ⟨_, rfl, ?_, Nat.lt_of_le_of_lt (onP_le _ _) HPS.out⟩
      have h10 : onP t2.ps a = onC root2 (L a) := h9
      rw [h10]
      have h11 : cntF (Kb root) root2 = nf := HNF.out
      rw [h11] at he2
      omega
    obtain ⟨o, eo, hon, hob⟩ := han
    have qw := Aside0.mk (fun W (h : Below w11.heap.size w11 W) => onWayC W t2 H8.out.2.2.1.toRok HPS.out _ _ _ _ _ (H11.out.2.2.below h) a (by omega))
    rw [eo] at qw
    have hge : (o : Int) ≤ (nf : Int) := by omega
    have hle : (nf : Int) ≤ (o : Int) + 1 := by omega
    have bu11 := H11.out.2.1
    have HBr := Aside0.mk (Below.refl w11.heap.size w11)
    have m0 : w11.cell? ⟨C2, 0, none⟩ = some (.slice B0 k0 d0) := by rw [blk_cell bu11]; rfl
    have m1 : w11.cell? ⟨C2, 1, none⟩ = some (.slice B1 k1 d1) := by rw [blk_cell bu11]; rfl
    have m2 : w11.cell? ⟨C2, 2, none⟩ = some (.slice B2 k2 d2) := by rw [blk_cell bu11]; rfl
    have m3 : w11.cell? ⟨C2, 3, none⟩ = some (.slice B3 k3 d3) := by rw [blk_cell bu11]; rfl
    have m4 : w11.cell? ⟨C2, 4, none⟩ = some (.slice B4 k4 d4) := by rw [blk_cell bu11]; rfl
    clear bu11 eo hon
    go_wp2_with (first
      | (go_at_call 48; refine (qw.out _ HBr.out).mono ?_; rintro e w12 ⟨rfl, hb12⟩; have HB12 := Aside0.mk (T.belowAt HBr.out hb12); have bu12 := (hb12.block _ (Array.getElem?_eq_some_iff.1 H11.out.2.1).1).trans H11.out.2.1; have n0 : w12.cell? ⟨C2, 0, none⟩ = some (.slice B0 k0 d0) := (by rw [blk_cell bu12]; rfl); have n1 : w12.cell? ⟨C2, 1, none⟩ = some (.slice B1 k1 d1) := (by rw [blk_cell bu12]; rfl); have n2 : w12.cell? ⟨C2, 2, none⟩ = some (.slice B2 k2 d2) := (by rw [blk_cell bu12]; rfl); have n3 : w12.cell? ⟨C2, 3, none⟩ = some (.slice B3 k3 d3) := (by rw [blk_cell bu12]; rfl); have n4 : w12.cell? ⟨C2, 4, none⟩ = some (.slice B4 k4 d4) := (by rw [blk_cell bu12]; rfl); clear bu12 hb12)
      | (go_at_call 48; refine (qw.out _ HB12.out).mono ?_; rintro e w13 ⟨rfl, hb13⟩; have HB13 := Aside0.mk (T.belowAt HB12.out hb13); clear hb13))
    go_ret
    exact ⟨rfl, T.belowAt HWW.out HB13.out⟩
  · skip
    go_upto_region 10 with fail
    obtain ⟨W7, e7⟩ : ∃ W7, w6.alloc (Obj.cells #[.int .i64 1, .int .i64 0, .string a, .int .i64 1] 67) = W7 := ⟨_, rfl⟩
    have bo7 : W7.heap[D]? = some (.cells #[.int .i64 1, .int .i64 0, .string a, .int .i64 1] 67 (0, 0)) := by rw [← e7, ← eD]; exact World.alloc_heap_new w6 _
    have bu7 : W7.heap[C]? = some (.cells #[.slice E0 y0 g0, .slice E1 y1 g1, .slice E2 y2 g2, .slice E3 y3 g3, .slice E4 y4 g4] 28 (0, 0)) := by rw [← e7]; exact (Below.heap_alloc _ _ _ (by omega)).trans bu6
    have HB7 : Aside0 (Below W3.heap.size W3 W7) := ⟨by rw [← e7]; exact HB6.out.alloc HB6.out.size _⟩
    have HU7 := Aside0.mk bu7
    have HUO := Aside0.mk bo7
    rw [e7]
    clear e7 eD
    have qg := Aside0.mk (grownD W7 tb root (H3.out.2.2.1.keep (T.Kept.of HB7.out)) t H2.out.2.1 H2.out.2.2.1 _ _ _ _ _ (H3.out.2.2.2.below HB7.out) a 0 1 0 ha (by have := H2.out.2.2.2.2; omega) HAl.out)
    unfold ptr at qg
    have m0 : W7.cell? ⟨C, 0, none⟩ = some (.slice E0 y0 g0) := by rw [blk_cell bu7]; rfl
    have m1 : W7.cell? ⟨C, 1, none⟩ = some (.slice E1 y1 g1) := by rw [blk_cell bu7]; rfl
    have m2 : W7.cell? ⟨C, 2, none⟩ = some (.slice E2 y2 g2) := by rw [blk_cell bu7]; rfl
    have m3 : W7.cell? ⟨C, 3, none⟩ = some (.slice E3 y3 g3) := by rw [blk_cell bu7]; rfl
    have m4 : W7.cell? ⟨C, 4, none⟩ = some (.slice E4 y4 g4) := by rw [blk_cell bu7]; rfl
    have o0 : W7.cell? ⟨D, 0, none⟩ = some (.int .i64 1) := by rw [blk_cell bo7]; rfl
    have o1 : W7.cell? ⟨D, 1, none⟩ = some (.int .i64 0) := by rw [blk_cell bo7]; rfl
    have o2 : W7.cell? ⟨D, 2, none⟩ = some (.string a) := by rw [blk_cell bo7]; rfl
    have o3 : W7.cell? ⟨D, 3, none⟩ = some (.int .i64 1) := by rw [blk_cell bo7]; rfl
    clear bu7 bo7
    go_wp2_with (go_at_call 46; refine qg.out.mono ?_)
    rintro e w8 ⟨tb2, root2, t2, old, b1, nx, u0, u1, u2, u3, u4, rfl, ht2, hm2, hok2, hag2, hk2, hl2, hpost, hb8⟩
    obtain ⟨⟨B0, k0, d0, rfl⟩, ⟨B1, k1, d1, rfl⟩, ⟨B2, k2, d2, rfl⟩, ⟨B3, k3, d3, rfl⟩, ⟨B4, k4, d4, rfl⟩⟩ := hm2.forms
    have H8 := Aside0.mk (And.intro ht2 (And.intro hm2 (And.intro hok2 (And.intro hag2 (And.intro hk2 (And.intro hl2 hpost))))))
    have HB8 := Aside0.mk (T.belowAt HB7.out hb8)
    have HU8 := Aside0.mk ((hb8.block _ (Array.getElem?_eq_some_iff.1 HU7.out).1).trans HU7.out)
    clear ht2 hm2 hok2 hag2 hk2 hl2 hpost hb8 m0 m1 m2 m3 m4 o0 o1 o2 o3 qg HU7 HUO
    obtain ⟨C2, eC2⟩ : ∃ C2, w8.heap.size = C2 := ⟨_, rfl⟩
    go_upto_region 13 with fail
    obtain ⟨W9, e9⟩ : ∃ W9, w8.alloc (Obj.cells #[.slice B0 k0 d0, .slice B1 k1 d1, .slice B2 k2 d2, .slice B3 k3 d3, .slice B4 k4 d4] 28) = W9 := ⟨_, rfl⟩
    have hb89 : Below w8.heap.size w8 W9 := by rw [← e9]; exact (Below.refl _ w8).alloc (Nat.le_refl _) _
    have hu9 : W9.heap[C2]? = some (.cells #[.slice B0 k0 d0, .slice B1 k1 d1, .slice B2 k2 d2, .slice B3 k3 d3, .slice B4 k4 d4] 28 (0, 0)) := by rw [← e9, ← eC2]; exact World.alloc_heap_new w8 _
    have HB9 := Aside0.mk (T.belowAt HB8.out hb89)
    have H9 := Aside0.mk (And.intro ((hb89.block _ (Array.getElem?_eq_some_iff.1 HU8.out).1).trans HU8.out) (And.intro hu9 (And.intro (H8.out.1.keep (T.Kept.of hb89)) (H8.out.2.1.below hb89))))
    rw [e9]
    clear e9 hb89 hu9 eC2 HU8
    have hAl2 : (All root2).length < 1000000000000 := by have := H1.out.2.2; have := H8.out.2.2.2.2.2.1; omega
    have qf := Aside0.mk (freshC W9 tb tb2 root root2 (H3.out.2.2.1.keep (T.Kept.of HB9.out)) H9.out.2.2.1 HAl.out hAl2)
    obtain ⟨nf, enf⟩ : ∃ nf, cntF (fun b => decide (b ∈ bls root)) root2 = nf := ⟨_, rfl⟩
    rw [enf] at qf
    have HNF := Aside0.mk enf
    unfold ptr at qf
    clear enf hAl2
    go_wp2_with fail
    go_at_call 44
    refine qf.out.mono ?_
    rintro e w10 ⟨rfl, hb10⟩
    have HB10 := Aside0.mk (T.belowAt HB9.out hb10)
    have HU10 := Aside0.mk (And.intro ((hb10.block _ (Array.getElem?_eq_some_iff.1 H9.out.1).1).trans H9.out.1) (And.intro ((hb10.block _ (Array.getElem?_eq_some_iff.1 H9.out.2.1).1).trans H9.out.2.1) (H9.out.2.2.2.below hb10)))
    have qt := Aside0.mk (getRtC w10 t H2.out.2.1.toRok (by have := H2.out.2.2.2.2; omega) _ _ _ _ _ (H3.out.2.2.2.below HB10.out) a)
    have bu10 := HU10.out.1
    have m0 : w10.cell? ⟨C, 0, none⟩ = some (.slice E0 y0 g0) := by rw [blk_cell bu10]; rfl
    have m1 : w10.cell? ⟨C, 1, none⟩ = some (.slice E1 y1 g1) := by rw [blk_cell bu10]; rfl
    have m2 : w10.cell? ⟨C, 2, none⟩ = some (.slice E2 y2 g2) := by rw [blk_cell bu10]; rfl
    have m3 : w10.cell? ⟨C, 3, none⟩ = some (.slice E3 y3 g3) := by rw [blk_cell bu10]; rfl
    have m4 : w10.cell? ⟨C, 4, none⟩ = some (.slice E4 y4 g4) := by rw [blk_cell bu10]; rfl
    clear bu10 hb10 qf
    go_wp2_with (go_at_call 47; refine qt.out.mono ?_)
    rintro e w11 ⟨x, b2, rfl, hb2, hb11⟩
    have HB11 := Aside0.mk (T.belowAt HB10.out hb11)
    have bu11 := (hb11.block _ (Array.getElem?_eq_some_iff.1 HU10.out.2.1).1).trans HU10.out.2.1
    have H11 := Aside0.mk (And.intro hb2 (And.intro bu11 (HU10.out.2.2.below hb11)))
    have hps : t2.ps.length < 1000000000000 := by have := H8.out.2.2.1.p; have := H8.out.2.2.2.2.1; have := H2.out.2.2.2.2; omega
    have HPS := Aside0.mk hps
    clear hb2 hb11 m0 m1 m2 m3 m4 qt hps bu11
    have HWW := Aside0.mk (T.belowAt H3.out.2.1 HB11.out)
    cases b2
    · have hno : a ∉ t.ks := fun h => by have := H11.out.1.2 h; simp at this
      have h9 := H8.out.2.2.2.2.2.2.2 hno
      have h11 : cntF (Kb root) root2 = nf := HNF.out
      have hn0 : nf = 0 := by rw [← h11]; exact h9
      subst hn0
      clear hno h9 h11
      go_wp2_with fail
      go_ret
      exact ⟨rfl, HWW.out⟩
    · skip
      have han : ∃ o : Nat, onP t2.ps a = o ∧ (o = nf ∨ o + 1 = nf) ∧ o < 1000000000000 := by
        obtain ⟨ee, he1, he2⟩ := H8.out.2.2.2.2.2.2.1 (H11.out.1.1 (by first | rfl | trivial))
        have h9 := paths_on H8.out.1.fine H8.out.1.vals H8.out.2.2.1 H8.out.2.2.2.1 (L a)
        refine ⟨_, rfl, ?_, Nat.lt_of_le_of_lt (onP_le _ _) HPS.out⟩
        have h10 : onP t2.ps a = onC root2 (L a) := h9
        rw [h10]
        have h11 : cntF (Kb root) root2 = nf := HNF.out
        rw [h11] at he2
        omega
      obtain ⟨o, eo, hon, hob⟩ := han
      have qw := Aside0.mk (fun W (h : Below w11.heap.size w11 W) => onWayC W t2 H8.out.2.2.1.toRok HPS.out _ _ _ _ _ (H11.out.2.2.below h) a (by omega))
      rw [eo] at qw
      have hge : (o : Int) ≤ (nf : Int) := by omega
      have hle : (nf : Int) ≤ (o : Int) + 1 := by omega
      have bu11 := H11.out.2.1
      have HBr := Aside0.mk (Below.refl w11.heap.size w11)
      have m0 : w11.cell? ⟨C2, 0, none⟩ = some (.slice B0 k0 d0) := by rw [blk_cell bu11]; rfl
      have m1 : w11.cell? ⟨C2, 1, none⟩ = some (.slice B1 k1 d1) := by rw [blk_cell bu11]; rfl
      have m2 : w11.cell? ⟨C2, 2, none⟩ = some (.slice B2 k2 d2) := by rw [blk_cell bu11]; rfl
      have m3 : w11.cell? ⟨C2, 3, none⟩ = some (.slice B3 k3 d3) := by rw [blk_cell bu11]; rfl
      have m4 : w11.cell? ⟨C2, 4, none⟩ = some (.slice B4 k4 d4) := by rw [blk_cell bu11]; rfl
      clear bu11 eo hon
      go_wp2_with (first
        | (go_at_call 48; refine (qw.out _ HBr.out).mono ?_; rintro e w12 ⟨rfl, hb12⟩; have HB12 := Aside0.mk (T.belowAt HBr.out hb12); have bu12 := (hb12.block _ (Array.getElem?_eq_some_iff.1 H11.out.2.1).1).trans H11.out.2.1; have n0 : w12.cell? ⟨C2, 0, none⟩ = some (.slice B0 k0 d0) := (by rw [blk_cell bu12]; rfl); have n1 : w12.cell? ⟨C2, 1, none⟩ = some (.slice B1 k1 d1) := (by rw [blk_cell bu12]; rfl); have n2 : w12.cell? ⟨C2, 2, none⟩ = some (.slice B2 k2 d2) := (by rw [blk_cell bu12]; rfl); have n3 : w12.cell? ⟨C2, 3, none⟩ = some (.slice B3 k3 d3) := (by rw [blk_cell bu12]; rfl); have n4 : w12.cell? ⟨C2, 4, none⟩ = some (.slice B4 k4 d4) := (by rw [blk_cell bu12]; rfl); clear bu12 hb12)
        | (go_at_call 48; refine (qw.out _ HB12.out).mono ?_; rintro e w13 ⟨rfl, hb13⟩; have HB13 := Aside0.mk (T.belowAt HB12.out hb13); clear hb13))
      go_ret
      exact ⟨rfl, T.belowAt HWW.out HB13.out⟩
end Go.Proofs.Ytjhgknagmiekeaa.N
