/- joined: F2 F3 TP17 F4 V34 V33 V11 -/
import Derived.Test.YtjhgknagmiekeaaJT19
import Derived.Test.YtjhgknagmiekeaaJT9
import Derived.Test.YtjhgknagmiekeaaJT17
import Derived.Deep.RegionHeld3
import Derived.Test.YtjhgknagmiekeaaJT12
import Derived.Test.YtjhgknagmiekeaaJT13
import Derived.Test.YtjhgknagmiekeaaJT18
import Derived.Test.YtjhgknagmiekeaaJT2
import Derived.Test.YtjhgknagmiekeaaRows
import Derived.Test.YtjhgknagmiekeaaJT4
import Derived.Deep.Slices
import Derived.Deep.Fields
import Derived.ChangeSame
import Derived.SizedLaws
import Derived.ProofKit
set_option linter.unusedVariables false
set_option linter.unusedSimpArgs false
namespace Go.Proofs.Ytjhgknagmiekeaa.F
open Go.RowKit Go.Lib Go.Proofs Go.ChangeMaps
open Go.Proofs.Ytjhgknagmiekeaa.T
open Go.Proofs.YtjhgknagmiekeaaW.PrintWords hiding blk_cell Kept
open Go.Proofs.Ytjhgknagmiekeaa.V (FarB farB_nd farB_nds)
theorem blk_cell {w : World} {g : Nat} {t : TypeId} {cs : Array Value} (h : w.heap[g]? = some (.cells cs t (0, 0))) (i : Nat) : w.cell? ⟨g, i, none⟩ = cs[i]? := Go.Proofs.YtjhgknagmiekeaaW.PrintWords.blk_cell h i
theorem cntNs_mem {k : Nd} : ∀ {ks : List Nd}, k ∈ ks → cntN k ≤ cntNs ks
  | a :: r, h => by
    rw [cntNs]
    rcases List.mem_cons.1 h with rfl | h
    · omega
    · have := cntNs_mem h; omega
theorem cntNs_take : ∀ (ks : List Nd) (i : Nat) (h : i < ks.length), cntNs (ks.take (i + 1)) = cntNs (ks.take i) + cntN ks[i]
  | a :: r, 0, h => by simp [cntNs]
  | a :: r, i + 1, h => by
    rw [List.take_succ_cons, List.take_succ_cons, cntNs, cntNs, cntNs_take r i (by simpa using h)]
    simp only [List.getElem_cons_succ]
    omega
theorem cntNs_le : ∀ (ks : List Nd) (i : Nat), cntNs (ks.take i) ≤ cntNs ks
  | [], i => by simp [cntNs]
  | a :: r, 0 => by simp [cntNs]
  | a :: r, i + 1 => by
    rw [List.take_succ_cons, cntNs, cntNs]
    have := cntNs_le r i
    omega
theorem blss_take : ∀ (ks : List Nd) (i : Nat) (h : i < ks.length) (b : Nat), b ∈ blss (ks.take (i + 1)) ↔ b ∈ blss (ks.take i) ∨ b ∈ bls ks[i]
  | a :: r, 0, h, b => by simp [blss]
  | a :: r, i + 1, h, b => by
    rw [List.take_succ_cons, List.take_succ_cons, blss, blss, List.mem_append, List.mem_append, blss_take r i (by simpa using h)]
    simp only [List.getElem_cons_succ]
    constructor
    · rintro (h | h | h)
      · exact .inl (.inl h)
      · exact .inl (.inr h)
      · exact .inr h
    · rintro ((h | h) | h)
      · exact .inl h
      · exact .inr (.inl h)
      · exact .inr (.inr h)
theorem MapP.imp {w : World} {mb n : Nat} {K K' : Nat → Prop} (h : MapP w mb n K) (hk : ∀ b, K b ↔ K' b) : MapP w mb n K' := by
  obtain ⟨es, clock, hb, h1, h2⟩ := h.ex
  exact ⟨es, clock, hb, h1, fun b => (hk b).symm.trans (h2 b)⟩
theorem MapP.off {w : World} {mb n : Nat} {K : Nat → Prop} (h : MapP w mb n K) {cs : Array Value} {t : TypeId} {fr : Nat × Nat} {b : Nat} (hb : w.heap[b]? = some (.cells cs t fr)) : b ≠ mb := fun e => by
  obtain ⟨es, clock, hm, -⟩ := h.ex
  rw [e, hm] at hb
  cases hb
theorem MapP.far {w w' : World} {mb n : Nat} {K : Nat → Prop} (h : MapP w mb n K) (hg : w.grownBy w' (some mb)) : FarB (fun k => k = mb) w w' :=
  ⟨fun k hk cs t fr hb => absurd hk (h.off hb), fun k hk h1 => hg.block k h1 (fun e => hk (Option.some.inj e))⟩
theorem below_grown {w w' : World} {row : Option Nat} (h : Below w.heap.size w w') : w.grownBy w' row := ⟨h.os, h.tape, h.output, h.size, fun i hi _ => h.block i hi⟩
theorem grown_keep {w w' : World} {mb : Nat} (hg : w.grownBy w' (some mb)) {b : Nat} {o : Obj} (hb : w.heap[b]? = some o) (hne : b ≠ mb) : w'.heap[b]? = some o :=
  (hg.block b (Array.getElem?_eq_some_iff.1 hb).1 (fun e => hne (Option.some.inj e))).trans hb
set_option maxHeartbeats 2000000 in
set_option maxRecDepth 100000 in
theorem learnC : ∀ (N : Nat) (n : Nd) (m mb b1 b2 : Nat) (K : Nat → Prop) (w : World), cntN n ≤ N → NdAt w n → MapP w mb m K → w.heap[b1]? = some (.cells #[.map (some mb)] 137 (0, 0)) → w.heap[b2]? = some (.cells #[.func (.func 100) #[] #[ptr b1, ptr b2]] 138 (0, 0)) → m + cntN n < 4611686018427387904 →
    Calls Try.prog 100 #[ptr n.b, ptr b1, ptr b2] w fun e w' => e = .returned (.tuple #[]) ∧ MapP w' mb (m + cntN n) (fun x => K x ∨ x ∈ bls n) ∧ w.grownBy w' (some mb) := by
  intro N
  induction N with
  | zero => intro n m mb b1 b2 K w hN; exfalso; rw [cntN_eq] at hN; omega
  | succ N ih =>
    intro n m mb b1 b2 K w hN hn hm h1 h2 hlt
    obtain ⟨kv, hb, hrow, hlf, hks⟩ := hn.parts
    obtain ⟨A, cap, rfl, hcell⟩ := hrow.open
    obtain ⟨c, hlook, hc0, hcm, -⟩ := hm.look hb
    have hpl : (ptrs n.kids).length = n.kids.length := by simp [ptrs]
    obtain ⟨len, elen⟩ : ∃ len, n.kids.length = len := ⟨_, rfl⟩
    rw [hpl, elen] at hb
    have cn := cntN_eq n
    have HN := Aside0.mk (And.intro hN (And.intro cn hlt))
    have HH := Aside0.mk (And.intro hn (And.intro hm (And.intro h1 h2)))
    have HB := Aside0.mk hb
    have HL := Aside0.mk (And.intro elen hks)
    have IH := Aside0.mk ih
    have c1 : w.cell? ⟨b1, 0, none⟩ = some (.map (some mb)) := by rw [blk_cell h1]; rfl
    have c2 : w.cell? ⟨b2, 0, none⟩ = some (.func (.func 100) #[] #[ptr b1, ptr b2]) := by rw [blk_cell h2]; rfl
    have k2 : w.cell? ⟨n.b, 2, none⟩ = some (.slice A len cap) := by rw [blk_cell hb]; rfl
    have hle : len ≤ 4611686018427387904 := by
      have : n.kids.length ≤ cntNs n.kids := by
        generalize n.kids = ks
        induction ks with
        | nil => simp
        | cons a r ihr => rw [cntNs, List.length_cons, cntN_eq]; omega
      omega
    have ewc : wrap64 (c + 1) = c + 1 := by unfold wrap64; omega
    have hcA := Aside0.mk (And.intro hc0 hcm)
    have hcl := Aside0.mk hcell
    have hMp := Aside0.mk (hm.mono (show m ≤ m + 1 by omega))
    have hew := Aside0.mk ewc
    obtain ⟨nb, enb⟩ : ∃ nb, n.b = nb := ⟨_, rfl⟩
    have HNB := Aside0.mk enb
    rw [enb] at hlook k2 HB ⊢
    clear ih hN hn hm h1 h2 hlt hrow hlf hks hb elen cn hc0 hcm hcell hpl enb ewc
    unfold ptr at c2 hlook ⊢
    go_enter Try.func100, Try.ntmps100
    go_wp2_with (at_mapUpdate; refine wpList_put _ rfl _ _ _ rfl rfl hMp.out HB.out rfl rfl ?hc1 ?hc2 ?_; (case hc1 => first | (rw [hew.out]; have := hcA.out; omega) | (simp only [hew.out]; have := hcA.out; omega)); (case hc2 => first | (rw [hew.out]; have := hcA.out; omega) | (simp only [hew.out]; have := hcA.out; omega)); intro w1 hm1 hg1; have HM1 := Aside0.mk (And.intro hm1 hg1); have k21 : w1.cell? ⟨nb, 2, none⟩ = some (.slice A len cap) := by (rw [blk_cell (grown_keep hg1 HB.out (HH.out.2.1.off HB.out))]; rfl))
    clear hlook c1 k2 hew hcA hMp
    go_loopg [5, 15] (len + 1) (fun kq v5 v15 W => ∃ i : Nat, v15 = .int .i64 (i : Int) ∧ Aside0 (i + kq = len + 1 ∧ i ≤ len) ∧ Aside0 (MapP W mb (m + 1 + cntNs (n.kids.take i)) (fun x => (K x ∨ x = nb) ∨ x ∈ blss (n.kids.take i)) ∧ w.grownBy W (some mb)))
    case atStart =>
      refine ⟨0, rfl, ⟨by omega⟩, ⟨?_, HM1.out.2⟩⟩
      have h0 := HM1.out.1
      rw [List.take_zero, cntNs]
      exact h0.imp (fun b => by rw [blss]; simp)
    case round =>
      obtain ⟨i, rfl, HQ, HW⟩ := hrel
      by_cases hlt : i < len
      · have hik : i < n.kids.length := by rw [HL.out.1]; exact hlt
        obtain ⟨ad, rfl, ha⟩ := hcl.out i (by simpa [ptrs] using hik)
        have hfar := HH.out.2.1.far HW.out.2
        have hndW := farB_nd hfar n HH.out.1
        obtain ⟨kvW, hbW, hrowW, -, hksW⟩ := hndW.parts
        have hbW0 := grown_keep HW.out.2 HB.out (HH.out.2.1.off HB.out)
        rw [HNB.out, hbW0] at hbW
        have ekv : kvW = .slice (some ad) len cap := by
          injection hbW with h; injection h with h _ _
          have := congrArg (fun a => a[2]?) h
          simpa using this.symm
        rw [ekv] at hrowW
        have hkc : wr.cell? (ad.add i) = some (ptr (n.kids[i]).b) := by
          rcases hrowW with ⟨h, -⟩ | ⟨ad', c', h, hr⟩
          · cases h
          · injection h with h _ _
            injection h with h
            subst h
            have := (hr i (by simpa [ptrs] using hik)).1
            rw [this]
            simp [ptrs]
        obtain ⟨kd, ekd⟩ : ∃ kd, n.kids[i] = kd := ⟨_, rfl⟩
        have hkm : kd ∈ n.kids := by rw [← ekd]; exact List.getElem_mem _
        rw [ekd] at hkc
        have hcmem := cntNs_mem hkm
        have htk := cntNs_take n.kids i hik
        have hle2 := cntNs_le n.kids (i + 1)
        have cn2 := HN.out.2.1
        have cn3 := HN.out.1
        have cn4 := HN.out.2.2
        rw [ekd] at htk
        have q := IH.out kd (m + 1 + cntNs (n.kids.take i)) mb b1 b2 _ wr (by omega) (hksW.mem kd hkm) HW.out.1 (grown_keep HW.out.2 HH.out.2.2.1 (HH.out.2.1.off HH.out.2.2.1)) (grown_keep HW.out.2 HH.out.2.2.2 (HH.out.2.1.off HH.out.2.2.2)) (by omega)
        have QQ := Aside0.mk q
        have c2W : wr.cell? ⟨b2, 0, none⟩ = some (.func (.func 100) #[] #[.pointer (some { block := b1, off := 0 }), .pointer (some { block := b2, off := 0 })]) := by rw [blk_cell (grown_keep HW.out.2 HH.out.2.2.2 (HH.out.2.1.off HH.out.2.2.2))]; rfl
        have HT := Aside0.mk (And.intro htk (And.intro hik (And.intro ekd hkm)))
        have hltI : (i : Int) < (len : Int) := by omega
        clear q c2 hfar hndW hbW hbW0 hrowW hksW ekv hcmem htk hle2 cn2 cn3 cn4 hkm ekd
        unfold ptr at QQ hkc
        go_wp2_with (go_at_call 100; refine QQ.out.mono ?_)
        rintro e w3 ⟨rfl, hm3, hg3⟩
        have H3 := Aside0.mk (And.intro hm3 hg3)
        clear hm3 hg3 QQ
        go_wp2_with fail
        go_roundg (len - i)
        case measure => have := HQ.out; omega
        case rel =>
          refine ⟨i + 1, ?_, ⟨by have := HQ.out; omega⟩, ⟨?_, HW.out.2.trans H3.out.2⟩⟩
          · first | rfl | (congr 1; omega) | (simp; done) | (rw [show wrap64 ((i : Int) + 1) = ((i + 1 : Nat) : Int) by unfold wrap64; omega])
          · have h0 := H3.out.1
            rw [show m + 1 + cntNs (n.kids.take (i + 1)) = m + 1 + cntNs (n.kids.take i) + cntN kd by rw [HT.out.1]; omega]
            refine h0.imp (fun b => ?_)
            have hb := blss_take n.kids i HT.out.2.1 b
            rw [HT.out.2.2.1] at hb
            rw [hb]
            constructor
            · rintro ((h | h) | h)
              · exact .inl h
              · exact .inr (.inl h)
              · exact .inr (.inr h)
            · rintro (h | h | h)
              · exact .inl (.inl h)
              · exact .inl (.inr h)
              · exact .inr h
      · have hin : i = len := by have := HQ.out; omega
        subst hin
        go_wp2_with fail
        refine bodyPost_end (results_none rfl _ _ _) rfl ?_
        refine ⟨rfl, ?_, HW.out.2⟩
        have h0 := HW.out.1
        rw [List.take_of_length_le (by rw [HL.out.1]; exact Nat.le_refl _)] at h0
        rw [show m + cntN n = m + 1 + cntNs n.kids by rw [HN.out.2.1]; omega]
        refine h0.imp (fun b => ?_)
        rw [bls_eq, List.mem_cons, HNB.out]
        constructor
        · rintro ((h | h) | h)
          · exact .inl h
          · exact .inr (.inl h)
          · exact .inr (.inr h)
        · rintro (h | h | h)
          · exact .inl (.inl h)
          · exact .inl (.inr h)
          · exact .inr h
end Go.Proofs.Ytjhgknagmiekeaa.F
set_option linter.unusedVariables false
set_option linter.unusedSimpArgs false
namespace Go.Proofs.Ytjhgknagmiekeaa.F
open Go.RowKit Go.Lib Go.Proofs Go.ChangeMaps
open Go.Proofs.Ytjhgknagmiekeaa.T
open Go.Proofs.YtjhgknagmiekeaaW.PrintWords hiding blk_cell Kept
open Go.Proofs.Ytjhgknagmiekeaa.V (FarB farB_nd farB_nds)
theorem cntFs_take (K : Nat → Bool) : ∀ (ks : List Nd) (i : Nat) (h : i < ks.length), cntFs K (ks.take (i + 1)) = cntFs K (ks.take i) + cntF K ks[i]
  | a :: r, 0, h => by simp [cntFs]
  | a :: r, i + 1, h => by
    rw [List.take_succ_cons, List.take_succ_cons, cntFs, cntFs, cntFs_take K r i (by simpa using h)]
    simp only [List.getElem_cons_succ]
    omega
mutual
theorem cntF_le (K : Nat → Bool) : ∀ n : Nd, cntF K n ≤ cntN n
  | .mk b label leaf kids mark => by
    rw [cntF, cntN]
    have := cntFs_le K kids
    split <;> omega
theorem cntFs_le (K : Nat → Bool) : ∀ ks : List Nd, cntFs K ks ≤ cntNs ks
  | [] => by rw [cntFs, cntNs]; exact Nat.le_refl _
  | n :: r => by
    rw [cntFs, cntNs]
    have := cntF_le K n
    have := cntFs_le K r
    omega
end
set_option maxHeartbeats 2000000 in
set_option maxRecDepth 100000 in
theorem countC (K : Nat → Bool) : ∀ (N : Nat) (n : Nd) (m mb b1 b2 : Nat) (w : World), cntN n ≤ N → NdAt w n → MapP w mb m (fun x => K x = true) → w.heap[b1]? = some (.cells #[.map (some mb)] 137 (0, 0)) → w.heap[b2]? = some (.cells #[.func (.func 101) #[] #[ptr b1, ptr b2]] 139 (0, 0)) → cntN n < 4611686018427387904 →
    Calls Try.prog 101 #[ptr n.b, ptr b1, ptr b2] w fun e w' => e = .returned (.int .i64 (cntF K n : Nat)) ∧ Below w.heap.size w w' := by
  intro N
  induction N with
  | zero => intro n m mb b1 b2 w hN; exfalso; rw [cntN_eq] at hN; omega
  | succ N ih =>
    intro n m mb b1 b2 w hN hn hm h1 h2 hlt
    obtain ⟨kv, hb, hrow, hlf, hks⟩ := hn.parts
    obtain ⟨A, cap, rfl, hcell⟩ := hrow.open
    obtain ⟨c, hlook, hc0, hcm, hck⟩ := hm.look hb
    have hpl : (ptrs n.kids).length = n.kids.length := by simp [ptrs]
    obtain ⟨len, elen⟩ : ∃ len, n.kids.length = len := ⟨_, rfl⟩
    rw [hpl, elen] at hb
    have cn := cntN_eq n
    have HN := Aside0.mk (And.intro hN (And.intro cn hlt))
    have HH := Aside0.mk (And.intro hn (And.intro hm (And.intro h1 h2)))
    have HB := Aside0.mk hb
    have HL := Aside0.mk (And.intro elen hks)
    have IH := Aside0.mk ih
    have c1 : w.cell? ⟨b1, 0, none⟩ = some (.map (some mb)) := by rw [blk_cell h1]; rfl
    have k2 : w.cell? ⟨n.b, 2, none⟩ = some (.slice A len cap) := by rw [blk_cell hb]; rfl
    have hle : len ≤ 4611686018427387904 := by
      have : n.kids.length ≤ cntNs n.kids := by
        generalize n.kids = ks
        induction ks with
        | nil => simp
        | cons a r ihr => rw [cntNs, List.length_cons, cntN_eq]; omega
      omega
    have hcl := Aside0.mk hcell
    obtain ⟨nb, enb⟩ : ∃ nb, n.b = nb := ⟨_, rfl⟩
    have HNB := Aside0.mk enb
    obtain ⟨r, er⟩ : ∃ r, cntF K n = r := ⟨_, rfl⟩
    have HR := Aside0.mk er
    rw [enb] at hlook k2 HB hck ⊢
    rw [er]
    by_cases hkn : K nb = true
    · have hcp : (0 : Int) < c := hck.1 hkn
      have hr0 : r = 0 := by rw [← er, cntF_eq, enb, if_pos hkn]
      subst hr0
      clear ih hN hn hm h1 h2 hlt hrow hlf hks hb elen cn hc0 hcm hcell hpl enb hck hkn er
      unfold ptr at hlook ⊢
      go_enter Try.func101, Try.ntmps101
      go_wp2_with fail
      go_ret
      exact ⟨rfl, Below.refl _ _⟩
    · have hcp : ¬ (0 : Int) < c := fun h => hkn (hck.2 h)
      have hr1 : r = 1 + cntFs K n.kids := by rw [← er, cntF_eq, enb, if_neg hkn]
      have HR1 := Aside0.mk hr1
      clear ih hN hn hm h1 h2 hlt hrow hlf hks hb elen cn hc0 hcm hcell hpl enb hck hkn er hr1 HR
      unfold ptr at hlook ⊢
      go_enter Try.func101, Try.ntmps101
      go_wp2_with fail
      clear hlook c1 k2 hcp
      go_loopg [5, 7, 17] (len + 1) (fun kq v5 v7 v17 W => ∃ i : Nat, v5 = .int .i64 ((1 + cntFs K (n.kids.take i) : Nat) : Int) ∧ v17 = .int .i64 (i : Int) ∧ Aside0 (i + kq = len + 1 ∧ i ≤ len) ∧ Aside0 (Below w.heap.size w W))
      case atStart => exact ⟨0, by rw [List.take_zero, cntFs]; rfl, rfl, ⟨by omega⟩, ⟨Below.refl _ _⟩⟩
      case round =>
        obtain ⟨i, rfl, rfl, HQ, HW⟩ := hrel
        by_cases hlt : i < len
        · have hik : i < n.kids.length := by rw [HL.out.1]; exact hlt
          obtain ⟨ad, rfl, ha⟩ := hcl.out i (by simpa [ptrs] using hik)
          have hkc := (Kept.of HW.out).cell ha
          have hpk : (ptrs n.kids)[i]'(by simpa [ptrs] using hik) = ptr (n.kids[i]).b := by simp [ptrs]
          rw [hpk] at hkc
          obtain ⟨kd, ekd⟩ : ∃ kd, n.kids[i] = kd := ⟨_, rfl⟩
          have hkm : kd ∈ n.kids := by rw [← ekd]; exact List.getElem_mem _
          rw [ekd] at hkc
          have hcmem := cntNs_mem hkm
          have htk := cntFs_take K n.kids i hik
          have hfl := cntFs_le K (n.kids.take (i + 1))
          have hle2 := cntNs_le n.kids (i + 1)
          have cn2 := HN.out.2.1
          have cn3 := HN.out.1
          have cn4 := HN.out.2.2
          rw [ekd] at htk
          have q := IH.out kd m mb b1 b2 wr (by omega) (NdAt.keep (Kept.of HW.out) kd (HL.out.2.mem kd hkm)) (HH.out.2.1.keep (Kept.of HW.out)) ((Kept.of HW.out).at HH.out.2.2.1) ((Kept.of HW.out).at HH.out.2.2.2) (by omega)
          have QQ := Aside0.mk q
          have c2W : wr.cell? ⟨b2, 0, none⟩ = some (.func (.func 101) #[] #[.pointer (some { block := b1, off := 0 }), .pointer (some { block := b2, off := 0 })]) := by rw [blk_cell ((Kept.of HW.out).at HH.out.2.2.2)]; rfl
          obtain ⟨f0, ef0⟩ : ∃ f, cntFs K (n.kids.take i) = f := ⟨_, rfl⟩
          obtain ⟨f1, ef1⟩ : ∃ f, cntF K kd = f := ⟨_, rfl⟩
          rw [ef0, ef1] at htk
          rw [ef1] at QQ
          rw [ef0]
          have HT := Aside0.mk htk
          have ewa := Aside0.mk (show wrap64 (((1 + f0 : Nat) : Int) + (f1 : Int)) = ((1 + (f0 + f1) : Nat) : Int) by unfold wrap64; omega)
          have hltI : (i : Int) < (len : Int) := by omega
          clear q hcmem htk hfl hle2 cn2 cn3 cn4 hkm ekd hpk ha ef0 ef1
          unfold ptr at QQ hkc
          go_wp2_with (go_at_call 101; refine QQ.out.mono ?_)
          rintro e w3 ⟨rfl, hb3⟩
          have H3 := Aside0.mk hb3
          clear hb3 QQ
          go_wp2_with fail
          go_roundg (len - i)
          case measure => have := HQ.out; omega
          case rel =>
            refine ⟨i + 1, ?_, ?_, ⟨by have := HQ.out; omega⟩, ⟨belowAt HW.out H3.out⟩⟩
            · rw [HT.out]
              first | rfl | (congr 1; exact ewa.out) | (congr 1; rw [← ewa.out]; rfl) | (congr 1; omega) | (congr 1; have := ewa.out; simp at this ⊢; omega)
            · first | rfl | (congr 1; omega) | (simp; done) | (rw [show wrap64 ((i : Int) + 1) = ((i + 1 : Nat) : Int) by unfold wrap64; omega])
        · have hin : i = len := by have := HQ.out; omega
          subst hin
          have eR : ((1 + cntFs K (n.kids.take i) : Nat) : Int) = (r : Int) := by rw [List.take_of_length_le (by rw [HL.out.1]; exact Nat.le_refl _), HR1.out]
          rw [eR]
          clear eR
          go_wp2_with fail
          go_ret
          exact ⟨rfl, HW.out⟩
end Go.Proofs.Ytjhgknagmiekeaa.F
set_option linter.unusedVariables false
set_option linter.unusedSimpArgs false
namespace Go.Proofs.Ytjhgknagmiekeaa.T
mutual
theorem cnt_full : ∀ (n : Nd) (p : List UInt8), Full n → Br n → cntN n + 1 ≤ 2 * (ents p n).length
  | .mk b label leaf kids mark, p, hf, hb => by
    have h := cnt_fulls kids (p ++ L label) hb.parts
    rw [ents_eq, List.length_append, List.length_map, cntN]
    show 1 + cntNs kids + 1 ≤ 2 * (leaf.toList.length + (entss (p ++ L label) kids).length)
    rcases hf with hf | hf
    · have : leaf.isSome = true := hf
      cases leaf with
      | none => cases this
      | some l => simp; omega
    · have : 2 ≤ kids.length := hf
      omega
theorem cnt_fulls : ∀ (ks : List Nd) (p : List UInt8), Brs ks → cntNs ks + ks.length ≤ 2 * (entss p ks).length
  | [], p, _ => by simp [cntNs]
  | n :: r, p, hb => by
    obtain ⟨h1, h2⟩ := hb.mem n (by simp)
    have h3 : Brs r := Brs.of (fun k hk => hb.mem k (by simp [hk]))
    have g1 := cnt_full n p h1 h2
    have g2 := cnt_fulls r p h3
    rw [entss, cntNs, List.length_append, List.length_cons]
    omega
end
theorem cnt_bound {root : Nd} (h : Fine root) : cntN root ≤ 2 * (All root).length + 1 := by
  have h1 := cnt_fulls root.kids ([] ++ L root.label) h.br.parts
  rw [cntN_eq, show All root = ents [] root from rfl, ents_eq, List.length_append]
  omega
end Go.Proofs.Ytjhgknagmiekeaa.T
set_option linter.unusedVariables false
set_option linter.unusedSimpArgs false
namespace Go.Proofs.Ytjhgknagmiekeaa.F
open Go.RowKit Go.Lib Go.Proofs Go.ChangeMaps
open Go.Proofs.Ytjhgknagmiekeaa.T
open Go.Proofs.YtjhgknagmiekeaaW.PrintWords hiding blk_cell Kept
open Go.Proofs.Ytjhgknagmiekeaa.V (FarB farB_nd farB_nds)
theorem run_store_func {P : Program} {w : World} {a : Addr} {m : Mode} (f : Fn) (x y : Array Value) : (store a (.func f x y) m).run P w = stored P w a (.func f x y) m := run_store P w a _ m rfl
attribute [local go_sem] run_store_func
set_option maxHeartbeats 2000000 in
set_option maxRecDepth 100000 in
theorem freshC (w : World) (t1 t2 : Nat) (r1 r2 : Nd) (h1 : Tr w t1 r1) (h2 : Tr w t2 r2) (hs1 : (All r1).length < 1000000000000) (hs2 : (All r2).length < 1000000000000) :
    Calls Try.prog 44 #[ptr t1, ptr t2] w fun e w' => e = .returned (.int .i64 (cntF (fun b => decide (b ∈ bls r1)) r2 : Nat)) ∧ Below w.heap.size w w' := by
  have hmm := @run_makeMap Try.prog
  have HT := Aside0.mk (And.intro h1 (And.intro h2 (And.intro hs1 hs2)))
  obtain ⟨c, hc⟩ : ∃ c, cntF (fun b => decide (b ∈ bls r1)) r2 = c := ⟨_, rfl⟩
  rw [hc]
  have HC := Aside0.mk hc
  clear h1 h2 hs1 hs2 hc
  unfold ptr
  have b3 : (((w.alloc (.map #[] 0)).alloc (.cells #[.map (some w.heap.size)] 137)).alloc (.cells #[.nilFunc] 138)).heap[w.heap.size + 1 + 1]? = some (.cells #[.nilFunc] 138) := by
    have := World.alloc_heap_new ((w.alloc (.map #[] 0)).alloc (.cells #[.map (some w.heap.size)] 137)) (.cells #[.nilFunc] 138)
    rwa [World.size_alloc, World.size_alloc] at this
  have f3 : (((w.alloc (.map #[] 0)).alloc (.cells #[.map (some w.heap.size)] 137)).alloc (.cells #[.nilFunc] 138)).cell? ⟨w.heap.size + 1 + 1, 0, none⟩ = some .nilFunc := by rw [blk_cell b3]; rfl
  have g3 : (((w.alloc (.map #[] 0)).alloc (.cells #[.map (some w.heap.size)] 137)).alloc (.cells #[.nilFunc] 138)).frozen? ⟨w.heap.size + 1 + 1, 0, none⟩ = false := blk_frozen b3 0
  have HM : Aside0 (MapP (((w.alloc (.map #[] 0)).alloc (.cells #[.map (some w.heap.size)] 137)).alloc (.cells #[.nilFunc] 138)) w.heap.size 0 (fun _ => False)) := ⟨(MapP.made w).keep (Kept.of (((Below.refl _ _).alloc (Nat.le_refl _) _).alloc (by simp) _))⟩
  have hB0 : Below w.heap.size w (((w.alloc (.map #[] 0)).alloc (.cells #[.map (some w.heap.size)] 137)).alloc (.cells #[.nilFunc] 138)) := (((Below.refl _ w).alloc (Nat.le_refl _) _).alloc (by simp) _).alloc (by simp; omega) _
  have hb1 : (((w.alloc (.map #[] 0)).alloc (.cells #[.map (some w.heap.size)] 137)).alloc (.cells #[.nilFunc] 138)).heap[w.heap.size + 1]? = some (.cells #[.map (some w.heap.size)] 137 (0, 0)) := by
    have := World.alloc_heap_new (w.alloc (.map #[] 0)) (.cells #[.map (some w.heap.size)] 137)
    rw [World.size_alloc] at this
    exact (Below.heap_alloc _ _ _ (by simp)).trans this
  obtain ⟨W3, eW3⟩ : ∃ W3, (((w.alloc (.map #[] 0)).alloc (.cells #[.map (some w.heap.size)] 137)).alloc (.cells #[.nilFunc] 138)) = W3 := ⟨_, rfl⟩
  rw [eW3] at f3 g3 HM hB0 hb1 b3
  have HB3 := Aside0.mk (And.intro b3 (And.intro hB0 hb1))
  clear b3 hB0 hb1
  go_enter Try.func44, Try.ntmps44
  go_wp2_with fail
  clear f3 g3 eW3
  obtain ⟨W, eW⟩ : ∃ W, W3.setCell { block := w.heap.size + 1 + 1, off := 0 } (.func (.func 100) #[] #[.pointer (some { block := w.heap.size + 1, off := 0 }), .pointer (some { block := w.heap.size + 1 + 1, off := 0 })]) = W := ⟨_, rfl⟩
  rw [eW]
  have hB : Below w.heap.size w W := by
    rw [← eW]
    exact HB3.out.2.1.setCell (by show w.heap.size ≤ w.heap.size + 1 + 1; omega) _
  have hb2 : W.heap[w.heap.size + 1 + 1]? = some (.cells #[.func (.func 100) #[] #[ptr (w.heap.size + 1), ptr (w.heap.size + 1 + 1)]] 138 (0, 0)) := by
    rw [← eW]
    exact V.set_at HB3.out.1 0 _
  have hb1 : W.heap[w.heap.size + 1]? = some (.cells #[.map (some w.heap.size)] 137 (0, 0)) := by
    rw [← eW, V.set_far _ _ _ _ _ (by omega)]
    exact HB3.out.2.2
  have hm : MapP W w.heap.size 0 (fun _ => False) := by
    obtain ⟨es, clock, q1, q2, q3⟩ := HM.out.ex
    refine ⟨es, clock, ?_, fun e he => ?_, q3⟩
    · rw [← eW, V.set_far _ _ _ _ _ (by omega)]
      exact q1
    · exact absurd ((q3 _).2 ⟨e, he, (q2 e he).choose_spec.choose_spec.choose_spec.choose_spec.1⟩) (fun h => h)
  have HW := Aside0.mk (And.intro hB (And.intro hb1 (And.intro hb2 hm)))
  clear eW HB3 HM hmm
  have ht1 := HT.out.1.keep (Kept.of HW.out.1)
  have c0 : W.cell? ⟨w.heap.size + 1 + 1, 0, none⟩ = some (.func (.func 100) #[] #[.pointer (some { block := w.heap.size + 1, off := 0 }), .pointer (some { block := w.heap.size + 1 + 1, off := 0 })]) := by rw [blk_cell hb2]; rfl
  have c1 : W.cell? ⟨t1, 0, none⟩ = some (.pointer (some { block := r1.b, off := 0 })) := by rw [blk_cell ht1.at_.blk]; rfl
  have hcb := cnt_bound HT.out.1.fine
  have hcb2 := cnt_bound HT.out.2.1.fine
  have hs1 := HT.out.2.2.1
  have hs2 := HT.out.2.2.2
  have q := Aside0.mk (fun W' (hbW : Below W.heap.size W W') => learnC (cntN r1) r1 0 w.heap.size (w.heap.size + 1) (w.heap.size + 1 + 1) (fun _ => False) W' (Nat.le_refl _) (ht1.keep (Kept.of hbW)).at_.root (hm.keep (Kept.of hbW)) ((Kept.of hbW).at hb1) ((Kept.of hbW).at hb2) (by omega))
  have HK := Aside0.mk (And.intro hcb (And.intro hcb2 (And.intro hs1 hs2)))
  have HBW := Aside0.mk (below_drew (Below.refl W.heap.size W))
  clear hB hb1 hb2 hm ht1 hcb hcb2 hs1 hs2
  unfold ptr at q
  have SK : Aside0 (∀ Z : World, W.drew.grownBy Z (some w.heap.size) → Z.heap[w.heap.size + 1 + 1]? = W.heap[w.heap.size + 1 + 1]? ∧ Z.heap[w.heap.size + 1]? = W.heap[w.heap.size + 1]? ∧ Z.heap[t1]? = W.heap[t1]? ∧ Z.heap[t2]? = W.heap[t2]?) := ⟨fun Z hZ => by
    have hb2 := HW.out.2.2.1
    have hb1 := HW.out.2.1
    have ht1 := (HT.out.1.keep (Kept.of HW.out.1)).at_.blk
    have ht2 := (HT.out.2.1.keep (Kept.of HW.out.1)).at_.blk
    have hm := HW.out.2.2.2
    exact ⟨(grown_keep hZ hb2 (hm.off hb2)).trans hb2.symm, (grown_keep hZ hb1 (hm.off hb1)).trans hb1.symm, (grown_keep hZ ht1 (hm.off ht1)).trans ht1.symm, (grown_keep hZ ht2 (hm.off ht2)).trans ht2.symm⟩⟩
  go_region_held3 (fun Z => Z.cell? ⟨w.heap.size + 1 + 1, 0, none⟩ = some (.func (.func 100) #[] #[.pointer (some { block := w.heap.size + 1, off := 0 }), .pointer (some { block := w.heap.size + 1 + 1, off := 0 })]) ∧ Z.cell? ⟨t1, 0, none⟩ = some (.pointer (some { block := r1.b, off := 0 })))
    (first | exact ⟨c0, c1⟩ | exact ⟨(World.cell?_of_block (SK.out _ H3.out.2).1).trans c0, (World.cell?_of_block (SK.out _ H3.out.2).2.2.1).trans c1⟩)
    (first
      | (go_at_call 100; refine (q.out _ HBW.out).mono ?_; rintro e w3 ⟨rfl, hm3, hg3⟩; have H3 := Aside0.mk (And.intro hm3 hg3); clear hm3 hg3))
  have K3 := Aside0.mk (SK.out _ H3.out.2)
  clear c0 c1 q
  have hsz3 := H3.out.2.size
  have hszW := HW.out.1.size
  have hnew : w.heap.size + 1 + 1 < W.heap.size := (Array.getElem?_eq_some_iff.1 HW.out.2.2.1).1
  have hsd : W.drew.heap.size = W.heap.size := rfl
  have b4 := World.alloc_heap_new w3 (.cells #[.nilFunc] 139)
  have f4 : (w3.alloc (.cells #[.nilFunc] 139)).cell? ⟨w3.heap.size, 0, none⟩ = some .nilFunc := by rw [blk_cell b4]; rfl
  have g4 : (w3.alloc (.cells #[.nilFunc] 139)).frozen? ⟨w3.heap.size, 0, none⟩ = false := blk_frozen b4 0
  have hB4 : Below w3.heap.size w3 (w3.alloc (.cells #[.nilFunc] 139)) := (Below.refl _ w3).alloc (Nat.le_refl _) _
  obtain ⟨W4, eW4⟩ : ∃ W4, w3.alloc (.cells #[.nilFunc] 139) = W4 := ⟨_, rfl⟩
  rw [eW4] at b4 f4 g4 hB4
  have HB4 := Aside0.mk (And.intro b4 hB4)
  have HSZ := Aside0.mk (And.intro hsz3 (And.intro hszW (And.intro hnew hsd)))
  clear b4 hB4 hsz3 hszW hnew hsd
  go_wp2_with fail
  clear f4 g4 eW4
  obtain ⟨W5, eW5⟩ : ∃ W5, W4.setCell { block := w3.heap.size, off := 0 } (.func (.func 101) #[] #[.pointer (some { block := w.heap.size + 1, off := 0 }), .pointer (some { block := w3.heap.size, off := 0 })]) = W5 := ⟨_, rfl⟩
  rw [eW5]
  have hb5 : Below w3.heap.size w3 W5 := by rw [← eW5]; exact HB4.out.2.setCell (Nat.le_refl _) _
  have hc5 : W5.heap[w3.heap.size]? = some (.cells #[.func (.func 101) #[] #[ptr (w.heap.size + 1), ptr w3.heap.size]] 139 (0, 0)) := by
    rw [← eW5]
    exact V.set_at HB4.out.1 0 _
  have K5 := Kept.of hb5
  have hm5 : MapP W5 w.heap.size (0 + cntN r1) (fun x => (fun b => decide (b ∈ bls r1)) x = true) := (H3.out.1.keep K5).imp (fun b => by simp)
  have hb51 : W5.heap[w.heap.size + 1]? = some (.cells #[.map (some w.heap.size)] 137 (0, 0)) := K5.at (K3.out.2.1.trans HW.out.2.1)
  have ht2 := HT.out.2.1.keep (Kept.of HW.out.1)
  have kdr : T.Kept W W.drew := Kept.of (below_drew (Below.refl W.heap.size W))
  have hnd3 : NdAt w3 r2 := farB_nd (MapP.far (HW.out.2.2.2.keep kdr) H3.out.2) r2 (NdAt.keep kdr r2 ht2.at_.root)
  have hnd5 : NdAt W5 r2 := NdAt.keep K5 r2 hnd3
  have d0 : W5.cell? ⟨w3.heap.size, 0, none⟩ = some (.func (.func 101) #[] #[.pointer (some { block := w.heap.size + 1, off := 0 }), .pointer (some { block := w3.heap.size, off := 0 })]) := by rw [blk_cell hc5]; rfl
  have d1 : W5.cell? ⟨t2, 0, none⟩ = some (.pointer (some { block := r2.b, off := 0 })) := by rw [blk_cell (K5.at (K3.out.2.2.2.trans ht2.at_.blk))]; rfl
  have q := Aside0.mk (fun W' (hbW : Below W5.heap.size W5 W') => countC (fun b => decide (b ∈ bls r1)) (cntN r2) r2 (0 + cntN r1) w.heap.size (w.heap.size + 1) w3.heap.size W' (Nat.le_refl _) (NdAt.keep (Kept.of hbW) r2 hnd5) (hm5.keep (Kept.of hbW)) ((Kept.of hbW).at hb51) ((Kept.of hbW).at hc5) (by have := HK.out; omega))
  rw [HC.out] at q
  have HB5 := Aside0.mk (below_drew (Below.refl W5.heap.size W5))
  have H5 := Aside0.mk hb5
  clear hb5 hc5 K5 hm5 hb51 ht2 hnd3 hnd5 eW5
  unfold ptr at q
  go_region_held3 (fun Z => Z.cell? ⟨w3.heap.size, 0, none⟩ = some (.func (.func 101) #[] #[.pointer (some { block := w.heap.size + 1, off := 0 }), .pointer (some { block := w3.heap.size, off := 0 })]) ∧ Z.cell? ⟨t2, 0, none⟩ = some (.pointer (some { block := r2.b, off := 0 })))
    (first | exact ⟨d0, d1⟩ | exact ⟨(Kept.of (below_drew (Below.refl W5.heap.size W5))).cell d0, (Kept.of (below_drew (Below.refl W5.heap.size W5))).cell d1⟩ | exact ⟨(Kept.of H6.out).cell ((Kept.of HB5.out).cell d0), (Kept.of H6.out).cell ((Kept.of HB5.out).cell d1)⟩)
    (first
      | (go_at_call 101; refine (q.out _ HB5.out).mono ?_; rintro e w6 ⟨rfl, hb6⟩; have H6 := Aside0.mk hb6; clear hb6))
  go_wp2_with fail
  go_ret
  refine ⟨rfl, ?_⟩
  have e1 : Below w.heap.size w w3 := by
    have hg := H3.out.2
    refine ⟨hg.os.trans HW.out.1.os, hg.tape.trans HW.out.1.tape, hg.output.trans HW.out.1.output, Nat.le_trans HW.out.1.size hg.size, fun k hk => ?_⟩
    exact (hg.block k (Nat.lt_of_lt_of_le hk HW.out.1.size) (fun e => by injection e with e; omega)).trans (HW.out.1.block k hk)
  exact belowAt (belowAt e1 H5.out) (belowAt HB5.out H6.out)
end Go.Proofs.Ytjhgknagmiekeaa.F
set_option linter.unusedVariables false
set_option linter.unusedSimpArgs false
namespace Go.Proofs.Ytjhgknagmiekeaa.V
open Go.Proofs.Ytjhgknagmiekeaa.VOU (below_drewA)
open Go.RowKit Go.Lib Go.Proofs Go.Shelf
open Go.Proofs.Ytjhgknagmiekeaa.T Go.Proofs.Ytjhgknagmiekeaa.N Go.Proofs.Ytjhgknagmiekeaa.K
open Go.Proofs.YtjhgknagmiekeaaW.PrintWords hiding blk_cell
attribute [local go_sem] Oper.semAt_some
set_option maxRecDepth 100000 in
set_option maxHeartbeats 4000000 in
theorem aliveP (w : World) : Calls Try.prog 20 #[] w fun e w' => e = .returned (.bool true) ∧ Below w.heap.size w w' := by
  refine callsIn_wide.1 (show CallsIn Fence.wide 9 Try.prog 20 _ w _ from ?_)
  have q := Aside0.mk (fun w1 A (h : EntAt w1 A twoE) => show CallsIn Fence.wide 8 Try.prog 21 _ w1 _ from callsIn_wide.2 (builtP A 2 twoE w1 h (by decide) (by decide) (by decide)))
  have q2 := Aside0.mk (fun w1 tb => show CallsIn Fence.wide 8 Try.prog 26 _ w1 _ from callsIn_wide.2 (allC tb w1))
  unfold ptr at q q2
  have hnf := funcNil
  refine callsIn_of_wp_marks Try.func20 rfl trivial ?_ rfl
  simp only [Try.ntmps20, List.size_toArray, List.length_cons, List.length_nil, Nat.reduceAdd, Nat.reduceSub, Array.replicate_succ, Array.replicate_zero, List.push_toArray, List.append_toArray, List.nil_append, List.cons_append]
  gi_wp2_with (first
    | (refine ⟨trivial, ?_⟩; gi_at_call 21; refine (q.out _ _ (two_at _ _)).mono ?_; rintro e w1 ⟨tb, root, t, v0, v1, v2, v3, v4, rfl, ht, hk, ha, hr, hl, hv, hb⟩; obtain ⟨⟨A0, n0, c0, rfl⟩, ⟨A1, n1, c1, rfl⟩, ⟨A2, n2, c2, rfl⟩, ⟨A3, n3, c3, rfl⟩, ⟨A4, n4, c4, rfl⟩⟩ := hr.forms; have H1 := Aside0.mk (And.intro ht (And.intro hv hb)); clear ht hk ha hr hl hv hb)
    | (refine ⟨trivial, ?_⟩; gi_at_call 26; refine (q2.out _ _).mono ?_; rintro e w2 ⟨bt, bs, bk, rfl, h2, h3, h4, h5⟩))
  clear q q2 hnf
  have hb := H1.out.2.2
  rw [World.size_alloc] at hb
  have hsz1 : w.heap.size + 1 ≤ w1.heap.size := by have := hb.size; rwa [World.size_alloc] at this
  have hbw : Below w.heap.size w w1 := ((Below.refl _ w).alloc (Nat.le_refl _) _).trans (hb.mono (by omega))
  simp only [World.size_alloc] at h5
  have hsz2 : w1.heap.size + 1 + 1 ≤ w2.heap.size := by have := h5.size; simp only [World.size_alloc] at this; exact this
  have bC : Boxed w2 (w1.heap.size + 1) 3 (.int .i64 0) := (h5.block _ (by omega)).trans (by have := World.alloc_heap_new (w1.alloc (Obj.cells #[Value.slice A0 n0 c0, Value.slice A1 n1 c1, Value.slice A2 n2 c2, Value.slice A3 n3 c3, Value.slice A4 n4 c4] 28)) (Obj.cells #[.int .i64 0] 3); rwa [World.size_alloc] at this)
  have hB0 : Below w1.heap.size w1 w2 := (((Below.refl _ w1).alloc (Nat.le_refl _) _).alloc (by simp) _).trans (h5.mono (by omega))
  have ht := H1.out.1
  have hall := two_all ht.fine ht.vals H1.out.2.1
  have hov : ovr (fun _ => false) (fun _ => true) ⟨#[]⟩ root = twoX := (ovr_of ht.fine.toGood hall (fun _ => false) (fun _ => true) hskA).trans (by decide)
  have hcn := Aside0.mk (fun W (h : Tr W tb root) => show CallsIn Fence.wide 8 Try.prog 25 _ W _ from callsIn_wide.2 (countC tb root ⟨#[97]⟩ W h 1 (by
    rw [ovr_of ht.fine.toGood hall (skU (L ⟨#[97]⟩)) (kpU (L ⟨#[97]⟩)) (hskU _)]
    decide) (by decide)))
  unfold ptr at hcn
  refine wpIn_rangeFunc_ownG rfl (by decide) (gf := 117) (lb := #[ptr bt, ptr bs, ptr bk]) rfl trivial (enters_of Try.func117 (by kernel_rfl) rfl)
    (VA.seq w2 8 2 w2.heap.size (fun k => k = w1.heap.size + 1) w1 (Kept.of hB0) (by omega) (Nat.le_refl _) (fun k hk e => by omega) tb root ht bt bs bk ⟨h2, h3, h4⟩ (by rw [hov]; decide))
    kpT (kpB (Nat.le_refl _)) (Below.refl _ _) (fun _ => rfl)
    (fun pre W => Boxed W (w1.heap.size + 1) 3 (.int .i64 (sumW pre)) ∧ Below w1.heap.size w1 W)
    (fun _ _ _ => False)
    (OwnFrom.and (Own.from (boxed_own (w1.heap.size + 1) 3 (fun pre : List (ByteArray × Int) => .int .i64 (sumW pre))) _) (ownFrom_below (Nat.le_refl _) (by omega)))
    (fun _ _ _ _ _ hs _ _ => hs)
    ⟨bC, hB0⟩
    (fun x => { tmps := #[.bool false, .pointer (some ⟨tb, 0, none⟩), .pointer (some ⟨w1.heap.size, 0, none⟩), .pointer (some ⟨(w1.heap.size + 1), 0, none⟩), .func (.func 117) #[] #[.pointer (some ⟨bt, 0, none⟩), .pointer (some ⟨bs, 0, none⟩), .pointer (some ⟨bk, 0, none⟩)], undef, .int .i64 x.2, .tuple #[.pointer (some ⟨tb, 0, none⟩), .agg #[.slice A0 n0 c0, .slice A1 n1 c1, .slice A2 n2 c2, .slice A3 n3 c3, .slice A4 n4 c4]], .agg #[.string { data := #[98] }, .int .i64 2], .agg #[.string { data := #[97] }, .int .i64 1], .slice (some ⟨w.heap.size, 0, none⟩) 2 2, .tuple #[.pointer (some ⟨tb, 0, none⟩), .agg #[.slice A0 n0 c0, .slice A1 n1 c1, .slice A2 n2 c2, .slice A3 n3 c3, .slice A4 n4 c4]], .pointer (some ⟨tb, 0, none⟩), .agg #[.slice A0 n0 c0, .slice A1 n1 c1, .slice A2 n2 c2, .slice A3 n3 c3, .slice A4 n4 c4], .pointer (some ⟨tb, 0, none⟩), .bool false, .pointer (some ⟨tb, 0, none⟩), .func (.func 117) #[] #[.pointer (some ⟨bt, 0, none⟩), .pointer (some ⟨bs, 0, none⟩), .pointer (some ⟨bk, 0, none⟩)], .func (.func 117) #[] #[.pointer (some ⟨bt, 0, none⟩), .pointer (some ⟨bs, 0, none⟩), .pointer (some ⟨bk, 0, none⟩)], .bool false, .func (.func 117) #[] #[.pointer (some ⟨bt, 0, none⟩), .pointer (some ⟨bs, 0, none⟩), .pointer (some ⟨bk, 0, none⟩)], .string x.1, .int .i64 x.2, undef, undef, undef, undef, undef, undef, undef, undef, undef, undef, undef], defers := [] }) ?assign ?body ?done ?stop
  case assign =>
    intro l x W K hK
    gi_wp2
    exact hK
  case body =>
    rintro l pre x W ⟨hv, hB⟩ hlt
    have hc := hv.cell
    have hf := hv.frozen
    gi_wp2
    refine ⟨(KeepsOthers.setCell _ _ _).from _, KpM.setBox (M := fun k => k = w1.heap.size + 1) hv (by decide) rfl _, ?_, hB.setCell (p := ⟨w1.heap.size + 1, 0, none⟩) (by show w1.heap.size ≤ w1.heap.size + 1; omega) _⟩
    rw [sumW_snoc]
    exact hv.set _
  case done =>
    rintro D ys W hD e9 ⟨hv, hB⟩ hK
    rw [e9, hov, show sumW twoX = 12 from by unfold sumW twoX; simp [wrap64]] at hv
    have hc := hv.cell
    gi_wp2_with (refine ⟨trivial, ?_⟩; gi_at_call 25; refine (hcn.out _ (ht.keep (Kept.of hB))).mono ?_; rintro e w3 ⟨rfl, hb3⟩)
    have hK3 := (hb3.block D (Array.getElem?_eq_some_iff.1 hK).1).trans hK
    refine ⟨by simp, .inl ⟨_, _, rfl, run_takeDeferred hK3, ?_⟩⟩
    exact ⟨_, results_tmp rfl _ _ _, rfl, (belowAt (hbw.trans (hB.mono (by omega))) hb3).trans (belowK_b (w := w2) (by omega) w3 D _ _ hD hK3 rfl rfl)⟩
  case stop =>
    rintro D c pre W _ _ h _
    exact h.elim
end Go.Proofs.Ytjhgknagmiekeaa.V
set_option linter.unusedVariables false
set_option linter.unusedSimpArgs false
namespace Go.Proofs.Ytjhgknagmiekeaa.V
open Go.Proofs.Ytjhgknagmiekeaa.VOU (below_drewA)
open Go.RowKit Go.Lib Go.Proofs Go.Shelf
open Go.Proofs.Ytjhgknagmiekeaa.T Go.Proofs.Ytjhgknagmiekeaa.N Go.Proofs.Ytjhgknagmiekeaa.K
open Go.Proofs.YtjhgknagmiekeaaW.PrintWords hiding blk_cell Kept
theorem undL_len {root : Nd} {t : Rt} (hg : T.Good root) (ht : Rok t) (h : Agree root t) (p : ByteArray) : (undL p root).length = (plc t.ks (fun k => kpU (L p) (L k))).length := by
  have hov := ovr_eqs hg h (skU (L p)) (kpU (L p)) (hskU _)
  rw [show undL p root = _ from hov]
  have := congrArg List.length (zip_filter t.ks t.vs ht.v (fun k => kpU (L p) (L k)))
  rw [List.length_map] at this
  exact this
theorem vals_int {root : Nd} (hv : IntVals root) : ∀ q v, valT root q = some v → ∃ x, v = .int .i64 x := fun q v h => by
  unfold valT at h
  obtain ⟨l, hl, e⟩ := Option.map_eq_some_iff.1 h
  obtain ⟨x, ex⟩ := hv _ _ hl
  exact ⟨x, by rw [← e, ex]⟩
theorem blk_five {W : World} {b : Nat} {v0 v1 v2 v3 v4 : Value} (h : W.heap[b]? = some (.cells #[v0, v1, v2, v3, v4] 28 (0, 0))) : W.cell? ⟨b, 0, none⟩ = some v0 ∧ W.cell? ⟨b, 1, none⟩ = some v1 ∧ W.cell? ⟨b, 2, none⟩ = some v2 ∧ W.cell? ⟨b, 3, none⟩ = some v3 ∧ W.cell? ⟨b, 4, none⟩ = some v4 :=
  ⟨by rw [blk_cell h]; rfl, by rw [blk_cell h]; rfl, by rw [blk_cell h]; rfl, by rw [blk_cell h]; rfl, by rw [blk_cell h]; rfl⟩
attribute [local go_sem] Oper.semAt_some
set_option maxRecDepth 100000 in
set_option maxHeartbeats 4000000 in
theorem trimsLaw (A : Option Addr) (c : Nat) (l : List S35) (p : ByteArray) (w : World) (hl : EntAt w A l) (hc : l.length ≤ c) (hlen : l.length < 10000000000) (hs : ∀ e ∈ l, e.f0.size < 4000000000000) :
    Calls Try.prog 15 #[.slice A l.length c, .string p] w fun e w' => e = .returned (.bool true) ∧ Below w.heap.size w w' := by
  have qa := Aside0.mk (aliveP w)
  have qb := Aside0.mk (fun w1 (h : Below w.heap.size w w1) => builtP A c l w1 (Kd.C_below hl h) hc hlen hs)
  have HN := Aside0.mk hlen
  clear hl hc hs hlen
  unfold ptr at qb
  go_enter Try.func15, Try.ntmps15
  go_wp2_with (go_at_call 20; refine qa.out.mono ?_; rintro e w0 ⟨rfl, hb0⟩; have HB0 := Aside0.mk hb0; clear hb0)
  go_at_call 21
  refine (qb.out _ HB0.out).mono ?_
  rintro e w1 ⟨tb, root, t, v0, v1, v2, v3, v4, rfl, ht, hk, ha, hr, hl, hv, hb⟩
  obtain ⟨⟨A0, n0, c0, rfl⟩, ⟨A1, n1, c1, rfl⟩, ⟨A2, n2, c2, rfl⟩, ⟨A3, n3, c3, rfl⟩, ⟨A4, n4, c4, rfl⟩⟩ := hr.forms
  have HB1 := Aside0.mk (belowAt HB0.out hb)
  have H1 := Aside0.mk (And.intro ht (And.intro hk (And.intro ha (And.intro hr hl))))
  have hall : (All root).length = t.ks.length := all_len ha hk.v
  have hnn := undL_len ht.fine.toGood hk.toRok ha p
  obtain ⟨NN, eNN⟩ : ∃ NN, (undL p root).length = NN := ⟨_, rfl⟩
  have HNN := Aside0.mk (And.intro eNN (And.intro (hnn.symm.trans eNN) hall))
  have hNs : NN < 10000000000 := by
    have h1 := plc_len t.ks (fun k => kpU (L p) (L k))
    have h2 := HN.out
    omega
  have hMb := World.alloc_heap_new w1 (Obj.cells #[.slice A0 n0 c0, .slice A1 n1 c1, .slice A2 n2 c2, .slice A3 n3 c3, .slice A4 n4 c4] 28)
  have hBm : Below w1.heap.size w1 (w1.alloc (Obj.cells #[.slice A0 n0 c0, .slice A1 n1 c1, .slice A2 n2 c2, .slice A3 n3 c3, .slice A4 n4 c4] 28)) := (Below.refl _ w1).alloc (Nat.le_refl _) _
  have qt := Aside0.mk (fun W (h : Below w1.heap.size w1 W) => trimC tb root p W (ht.keep (Kept.of h)) (by have := HN.out; omega))
  rw [eNN] at qt
  have qr := Aside0.mk (fun W (h : Below w1.heap.size w1 W) => trimRtC (valT root) (vals_int ht.vals) W t hk (agreeF_of ht.fine.toGood ht.vals ha) _ _ _ _ _ (hr.below h) p 0 (by have := HN.out; omega))
  rw [hnn.symm.trans eNN] at qr
  have qh := Aside0.mk (fun W (h : Below w1.heap.size w1 W) => holdsC tb root t W (ht.keep (Kept.of h)) hk.toRok ha _ _ _ _ _ (hr.below h) (by have := HN.out; omega))
  have HM := Aside0.mk (And.intro hMb hBm)
  clear ht hk ha hr hl hv hb qa qb hMb hBm hall hnn eNN
  unfold ptr at qt qh
  go_wp2_with (first
    | (go_at_call 55; refine (qt.out _ HM.out.2).mono ?_; rintro e w2 ⟨ub, ur, rfl, t2, val2, l2, e2, B2⟩; have HB2 := Aside0.mk (belowAt HM.out.2 B2); have b2 := (Kept.of B2).at HM.out.1; obtain ⟨m0, m1, m2, m3, m4⟩ := blk_five b2; have H2 := Aside0.mk (And.intro t2 (And.intro val2 (And.intro l2 (And.intro e2 b2)))); clear t2 val2 l2 e2 B2 b2)
    | fail)
  go_at_call 56
  refine (qr.out _ HB2.out).mono ?_
  rintro e w3 ⟨t', nx', u0, u1, u2, u3, u4, rfl, r3, k3, f3, l3, B3⟩
  obtain ⟨⟨B0, k0, d0, rfl⟩, ⟨B1, k1, d1, rfl⟩, ⟨B2, k2, d2, rfl⟩, ⟨B3', k3', d3, rfl⟩, ⟨B4, k4, d4, rfl⟩⟩ := r3.forms
  have b3 := (Kept.of B3).at H2.out.2.2.2.2
  have HB3 := Aside0.mk (belowAt HB2.out B3)
  have t3 := H2.out.1.keep (Kept.of B3)
  have hag : Agree ur t' := agree_of t3.fine.toGood t3.vals k3.toRok (f3.imp H2.out.2.1)
  have hBw : Below w3.heap.size w3 (w3.alloc (Obj.cells #[.slice B0 k0 d0, .slice B1 k1 d1, .slice B2 k2 d2, .slice B3' k3' d3, .slice B4 k4 d4] 28)) := (Below.refl _ w3).alloc (Nat.le_refl _) _
  have b9 := World.alloc_heap_new w3 (Obj.cells #[.slice B0 k0 d0, .slice B1 k1 d1, .slice B2 k2 d2, .slice B3' k3' d3, .slice B4 k4 d4] 28)
  have b6 := (Kept.of hBw).at b3
  have HB4 := Aside0.mk (belowAt HB3.out hBw)
  have t4 := t3.keep (Kept.of hBw)
  have qh2 := Aside0.mk (fun W (h : Below (w3.alloc (Obj.cells #[.slice B0 k0 d0, .slice B1 k1 d1, .slice B2 k2 d2, .slice B3' k3' d3, .slice B4 k4 d4] 28)).heap.size (w3.alloc (Obj.cells #[.slice B0 k0 d0, .slice B1 k1 d1, .slice B2 k2 d2, .slice B3' k3' d3, .slice B4 k4 d4] 28)) W) => holdsC ub ur t' W (t4.keep (Kept.of h)) k3.toRok hag _ _ _ _ _ ((r3.below hBw).below h) (by have := HN.out; have := H1.out.2.2.2.2; omega))
  obtain ⟨x0, x1, x2, x3, x4⟩ := blk_five b9
  obtain ⟨y0, y1, y2, y3, y4⟩ := blk_five b6
  have HK4 := Aside0.mk b6
  have HBr := Aside0.mk (Below.refl (w3.alloc (Obj.cells #[.slice B0 k0 d0, .slice B1 k1 d1, .slice B2 k2 d2, .slice B3' k3' d3, .slice B4 k4 d4] 28)).heap.size (w3.alloc (Obj.cells #[.slice B0 k0 d0, .slice B1 k1 d1, .slice B2 k2 d2, .slice B3' k3' d3, .slice B4 k4 d4] 28)))
  clear m0 m1 m2 m3 m4 b3 b6 b9 t3 t4 hag hBw k3 f3 r3 l3 B3 qt qr
  unfold ptr at qh2
  have qf := Aside0.mk (fun (hz : NN = 0) W (h : Below w1.heap.size w1 W) => by
    have he : undL p root = [] := List.eq_nil_of_length_eq_zero (by rw [HNN.out.1, hz])
    obtain ⟨e1, e2⟩ := H2.out.2.2.2.1 he
    have q := F.freshC W tb tb root root (H1.out.1.keep (Kept.of h)) (H1.out.1.keep (Kept.of h)) (by have := HNN.out.2.2; have := HN.out; have := H1.out.2.2.2.2; omega) (by have := HNN.out.2.2; have := HN.out; have := H1.out.2.2.2.2; omega)
    rw [Kn.zero (fun b hb => by simpa using hb)] at q
    exact (show Calls Try.prog 44 #[ptr tb, ptr ub] W (fun e w' => e = .returned (.int .i64 ((0 : Nat) : Int)) ∧ Below W.heap.size W w') by rw [e1]; exact q))
  unfold ptr at qf
  by_cases hz : NN = 0
  · subst hz
    have qf2 := Aside0.mk (qf.out rfl)
    clear qf
    go_wp2_with (first
      | (go_at_call 57; (with_reducible refine (qh2.out _ HBr.out).mono ?_); rintro e w5 ⟨rfl, B5⟩; have HB5 := Aside0.mk (belowAt HB4.out B5); have b65 := (Kept.of B5).at HK4.out; obtain ⟨z0, z1, z2, z3, z4⟩ := blk_five b65; clear B5 b65)
      | (go_at_call 57; (with_reducible refine (qh.out _ HB5.out).mono ?_); rintro e w6 ⟨rfl, B6⟩; have HB6 := Aside0.mk (belowAt HB5.out B6); clear B6)
      | (go_at_call 44; (with_reducible refine (qf2.out _ HB6.out).mono ?_); rintro e w7 ⟨rfl, B7⟩; have HB7 := Aside0.mk (belowAt HB6.out B7); clear B7))
    go_ret
    exact ⟨rfl, belowAt HB1.out HB7.out⟩
  · have hzp : (0 : Int) < (NN : Int) := by omega
    clear qf
    go_wp2_with (first
      | (go_at_call 57; (with_reducible refine (qh2.out _ HBr.out).mono ?_); rintro e w5 ⟨rfl, B5⟩; have HB5 := Aside0.mk (belowAt HB4.out B5); have b65 := (Kept.of B5).at HK4.out; obtain ⟨z0, z1, z2, z3, z4⟩ := blk_five b65; clear B5 b65)
      | (go_at_call 57; (with_reducible refine (qh.out _ HB5.out).mono ?_); rintro e w6 ⟨rfl, B6⟩; have HB6 := Aside0.mk (belowAt HB5.out B6); clear B6))
    go_ret
    exact ⟨rfl, belowAt HB1.out HB6.out⟩
end Go.Proofs.Ytjhgknagmiekeaa.V
set_option linter.unusedVariables false
set_option linter.unusedSimpArgs false
namespace Go.Proofs.Ytjhgknagmiekeaa.R
open Go.ChangeShapes Go.WideShapes Go.Deep Go.RowKit
open Go.Proofs.YtjhgknagmiekeaaW.PrintWords Go.Proofs.Ytjhgknagmiekeaa.K
section
variable {H : Type} {enc : TypeId × Value → H} {P : Program} {w : World} {base : Nat} {spare : Nat → Bool} {held : Bool}
theorem open_slice_fields {t e : TypeId} {fs : Array Field} {fuel : Nat} {cs : List Value} {x : DataW H × List MemPlace} (ht : P.underlying t = some (.slice e)) (he : P.underlying e = some (.struct fs))
    (hone : oneCellFields P fs = true) (hC : P.cellsOf e = fs.size) (h : DataW.trod enc P w base spare held fuel t cs = some x) :
    (cs = [.slice none 0 0] ∧ x = (.nil, [])) ∨
    ∃ (a : Addr) (len cap m : Nat) (D : Nat → DataW H) (Pl : Nat → List MemPlace), cs = [.slice (some a) len cap] ∧ base ≤ a.block ∧ len ≤ cap ∧ cap ≤ maxLen ∧ m = (if spare a.block then cap else len) ∧
      x = (.slice ((List.range len).map D) ((List.range (m - len)).map fun j => D (len + j)), MemPlace.row a (m * fs.size) ++ (List.range m).flatMap Pl) ∧
      ∀ i, i < m → ∃ (ys : List (DataW H × List MemPlace)) (n : Nat), D i = .agg (ys.map (·.1)) ∧ Pl i = ys.flatMap (·.2) ∧ ys.length = fs.size ∧
        ∀ (j : Nat) (f : Field), fs[j]? = some f → ∃ (v : Value) (y : DataW H × List MemPlace), w.cell? (a.add (i * fs.size + j)) = some v ∧ ys[j]? = some y ∧ DataW.trod enc P w base spare held n f.type [v] = some y := by
  rcases open_slice ht h with h0 | ⟨a, len, cap, m, n, D, Pl, hcs, hb, hl, hm, hmm, hx, hi⟩
  · exact .inl h0
  · refine .inr ⟨a, len, cap, m, D, Pl, hcs, hb, hl, hm, hmm, by rw [hC] at hx; exact hx, fun i him => ?_⟩
    obtain ⟨cs', hc, ht'⟩ := hi i him
    rw [hC] at hc
    obtain ⟨ys, n', hn', hy, hlen, hyl, hf⟩ := DataW.trod_struct he ht'
    obtain ⟨_, hcl, hat⟩ := World.cells?_some hc
    simp only [Prod.mk.injEq] at hy
    refine ⟨ys, n', hy.1, hy.2, hyl, fun j f hj => ?_⟩
    obtain ⟨ho, hk⟩ := hone_of hone j f hj
    have hjl : j < fs.size := (Array.getElem?_eq_some_iff.1 hj).1
    have hcell := hat j hjl
    have hv : cs'[j]? = some (cs'[j]'(by omega)) := List.getElem?_eq_getElem (by omega)
    have h1 := hf j f hj
    rw [ho, hk] at h1
    have hone' : (cs'.drop j).take 1 = [cs'[j]'(by omega)] := by
      rw [List.drop_eq_getElem_cons (by omega)]
      rfl
    rw [hone'] at h1
    have hys : ys[j]? = some (ys[j]'(by omega)) := List.getElem?_eq_getElem (by omega)
    refine ⟨_, _, ?_, hys, h1.trans hys⟩
    rw [← Go.Deep.add_add, hcell, hv]
end
def dE {H : Type} (p : S35) : DataW H := .agg [.lit (.string p.f0.data.toList), .lit (.int .i64 p.f1)]
theorem open_entries {H : Type} {enc : TypeId × Value → H} {W : World} {base : Nat} {spare : Nat → Bool} {held : Bool} {a : Option Addr} {len cap : Nat} {d : DataW H} {ps : List MemPlace}
    (h : DataW.Trod enc Try.prog W base spare held 22 (.slice a len cap) d ps) :
    ∃ l : List S35, len = l.length ∧ l.length ≤ cap ∧ Kd.C k35 W a l.length l ∧ ((d = .nil ∧ l = []) ∨ ∃ sp, d = .slice (l.map dE) sp) := by
  obtain ⟨fuel, hf⟩ := h
  rcases open_slice_fields (fs := #[_, _]) Try.underlying22 Try.underlying35 (by kernel_rfl) (by kernel_rfl) hf with ⟨hcs, hx⟩ | ⟨ad, len', cap', m, D, Pl, hcs, _, hl, hm, hmm, hx, hi⟩
  · simp [Value.cells] at hcs
    obtain ⟨rfl, rfl, rfl⟩ := hcs
    obtain ⟨rfl, _⟩ := Prod.mk.inj hx
    exact ⟨[], rfl, by simp, Kd.C_nil k35 W, .inl ⟨rfl, rfl⟩⟩
  · simp [Value.cells] at hcs
    obtain ⟨rfl, rfl, rfl⟩ := hcs
    obtain ⟨hx, _⟩ := Prod.mk.inj hx
    subst hx
    have hlm : len ≤ m := by rw [hmm]; split; exact hl; exact Nat.le_refl _
    have each : ∀ i : Nat, ∃ p : S35, i < len → D i = dE p ∧ W.cell? (ad.add (i * 2)) = some (.string p.f0) ∧ W.cell? (ad.add (i * 2 + 1)) = some (.int .i64 p.f1) := by
      intro i
      by_cases hil : i < len
      · obtain ⟨ys, n, hD, _, hyl, hj⟩ := hi i (by omega)
        obtain ⟨v0, y0, c0, e0, t0⟩ := hj 0 _ rfl
        obtain ⟨v1, y1, c1, e1, t1⟩ := hj 1 _ rfl
        obtain ⟨s0, q0, r0, w0⟩ := DataW.trod_string Try.underlying9 t0
        obtain ⟨n1, q1, r1, w1⟩ := DataW.trod_int Try.underlying3 t1
        simp only [List.cons.injEq, and_true] at q0 q1
        subst q0 q1 r0 r1
        refine ⟨⟨s0, n1⟩, fun _ => ⟨?_, c0, c1⟩⟩
        have hys : ys = [(.lit (.string s0.data.toList), []), (.lit (.int .i64 n1), [])] := by
          match ys, hyl, e0, e1 with
          | [a, b], _, e0, e1 => simp at e0 e1; rw [e0, e1]
        rw [hD, hys]
        rfl
      · exact ⟨⟨⟨#[]⟩, 0⟩, fun h => absurd h hil⟩
    obtain ⟨g, hg⟩ := Classical.axiomOfChoice each
    refine ⟨(List.range len).map g, by simp, by simpa using hl, ?_, .inr ⟨(List.range (m - len)).map fun j => D (len + j), ?_⟩⟩
    · have hlen : ((List.range len).map g).length = len := by simp
      rw [hlen]
      refine ⟨hlen, by unfold maxLen at hm; omega, fun _ => ⟨ad, rfl, fun j p hp => ?_⟩⟩
      have hj : j < len := by have := (List.getElem?_eq_some_iff.1 hp).1; rw [hlen] at this; exact this
      have hpe : p = g j := by
        rw [List.getElem?_map, List.getElem?_range hj] at hp
        simpa using hp.symm
      subst hpe
      obtain ⟨_, c0, c1⟩ := hg j hj
      refine ⟨_, rfl, k35_mk W (g j), fun i u hu => ?_⟩
      match i, hu with
      | 0, hu => simp at hu; subst hu; exact c0
      | 1, hu => simp at hu; subst hu; exact c1
    · congr 1
      rw [List.map_map]
      apply List.map_congr_left
      intro j hj
      exact (hg j (List.mem_range.1 hj)).1
def wt : List S35 → Nat
  | [] => 0
  | p :: ps => p.f0.size + 1 + wt ps
theorem wt_bulk {H : Type} (l : List S35) : wt l ≤ Rows.uptoBulkAll (l.map (dE (H := H))) := by
  induction l with
  | nil => exact Nat.zero_le _
  | cons p ps ih =>
    have e : p.f0.data.toList.length = p.f0.size := T.L_len _
    simp only [List.map_cons, Rows.uptoBulkAll, wt, dE, Rows.uptoBulk, e]
    omega
theorem wt_of {H : Type} {d : DataW H} {l : List S35} (h : (d = .nil ∧ l = []) ∨ ∃ sp, d = .slice (l.map dE) sp) : wt l ≤ Rows.uptoBulk d := by
  rcases h with ⟨rfl, rfl⟩ | ⟨sp, rfl⟩
  · exact Nat.zero_le _
  · have := wt_bulk (H := H) l
    simp only [Rows.uptoBulk]
    omega
theorem wt_len : ∀ (l : List S35), l.length ≤ wt l
  | [] => Nat.zero_le _
  | p :: ps => by have := wt_len ps; simp only [List.length_cons, wt]; omega
theorem wt_mem : ∀ (l : List S35) (p : S35), p ∈ l → p.f0.size ≤ wt l
  | q :: l, p, h => by
    simp only [wt]
    rcases List.mem_cons.1 h with e | e
    · rw [e]; omega
    · have := wt_mem l p e; omega
end Go.Proofs.Ytjhgknagmiekeaa.R
