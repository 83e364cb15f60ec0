/- joined: G16 H4 -/
import Derived.Test.YtjhgknagmiekeaaGreatJA6
import Derived.Test.YtjhgknagmiekeaaGreatJA5
set_option linter.unusedVariables false
set_option linter.unusedSimpArgs false
namespace Go.Proofs.YtjhgknagmiekeaaGreat.G
open Go.RowKit Go.Lib Go.Proofs Go.Conc Go.Maps
open Go.Proofs.YtjhgknagmiekeaaGreatW.PrintWords hiding Kept
open Go.Proofs.YtjhgknagmiekeaaGreatW.PrintLast
open Go.Proofs.YtjhgknagmiekeaaGreat.T (Nd NdAt ptr Tr L All valT wasV Lf Strs emptyN wayF wayF_none)
theorem mks_empty (nb : Nat) (m : Value) : mks (emptyN nb m) = [m] := by
  rw [mks_eq]
  rfl
theorem keys_one (e : DataW Unit) (s : List UInt8) : strKeys ((DataW.map [] : DataW Unit).put (.string s) e) = [s] := rfl
theorem fire_one (W : World) (nb c : Nat) (k : ByteArray) (h : WatchAt W (c + 1) c false) : (fireAll W (emptyN nb (ptr (c + 1))) [k]).2 = 1 := by
  obtain ⟨n, en⟩ : ∃ n, emptyN nb (ptr (c + 1)) = n := ⟨_, rfl⟩
  have hd : ∀ r, T.downN n r = none := fun r => by
    rw [← en]
    unfold T.downN
    split
    · rfl
    · rfl
  have hm : ∀ a, marksOn k n a = [c] := fun a => by
    rw [← en]
    unfold marksOn
    show _ :: (if a = k.size then [] else []) = _
    rw [ite_self]
    rfl
  have hs : ∀ (f a : Nat) (s : (Nat → Bool) × Int), wayF (stepW W k) k (f + 1) (some n) a s = shootC W s c := fun f a s => by
    rw [wayF, hd, wayF_none]
    unfold stepW
    rw [hm]
    rfl
  have e : fireAll W n [k] = shootC W (fun _ => false, 0) c := by
    unfold fireAll
    rw [List.foldl_cons, List.foldl_nil]
    unfold fireK
    have h2 : k.size + 2 = k.size + 1 + 1 := rfl
    rw [h2]
    exact hs (k.size + 1) 0 _
  rw [en]
  rw [e]
  show (if (shutAt W c || false) = true then (0 : Int) else wrap64 (0 + 1)) = 1
  rw [shutAt_of h]
  decide +kernel
set_option maxRecDepth 100000 in
set_option maxHeartbeats 4000000 in
theorem txnAlive (w : World) : Calls Tryz.prog 8 #[] w fun e w' => e = .returned (.bool true) ∧ Below w.heap.size w w' := by
  have q1 := Aside0.mk (newB w)
  go_enter Tryz.func8, Tryz.ntmps8
  unfold ptr at q1
  go_wp2_with fail
  go_at_call 9
  refine q1.out.mono ?_
  rintro e w1 ⟨b, v, tb, nb, c, rfl, hbA, htA, hwa, h1, h2, h3, hbel⟩
  obtain ⟨root, er⟩ : ∃ r, emptyN nb (ptr (c + 1)) = r := ⟨_, rfl⟩
  have ht : Tr w1 tb root := by rw [← er]; exact ⟨by rw [T.all_empty]; exact htA, T.fine_empty _ _, T.vals_empty _ _⟩
  have q2 := Aside0.mk (baseVersion w1 b v tb 0 false hbA)
  have q3 := Aside0.mk (beginFree w1 b v tb 0 hbA)
  have H1 := Aside0.mk (And.intro hbA (And.intro ht (And.intro hwa (And.intro h1 (And.intro h3 hbel)))))
  have HR := Aside0.mk er
  clear hbA htA hwa h1 h2 h3 hbel ht er q1
  unfold ptr at q2 q3
  go_wp2_with fail
  go_at_call 11
  refine q2.out.mono ?_
  rintro e w' ⟨rfl, hw⟩
  subst hw
  go_wp2_with fail
  go_at_call 18
  refine q3.out.mono ?_
  rintro e w2 ⟨x, mb, rfl, hb2, hx2, hm2, hxs, hms, hmx, ho2⟩
  have q4 := Aside0.mk (beginHeld w2 b v tb 0 hb2)
  have hc2 : CellsOf w' tXB (fun k => k = b) := fun k e => by rw [e]; exact ⟨_, _, _, H1.out.1.base, rfl⟩
  have hf2 := ho2.farP hc2
  have ht2 : Tr w2 tb root := hf2.tr rfl rfl rfl rfl H1.out.2.1
  have hw2 := ho2.watch hc2 rfl H1.out.2.2.1
  have hal : All root = [] := by rw [← HR.out]; exact T.all_empty _ _
  have q5 := Aside0.mk (txnSet w2 x b tb mb 0 _ root hx2 hm2 (by omega) ht2 ⟨#[97]⟩ 5 (by decide) (by rw [hal]; decide))
  have H2 := Aside0.mk (And.intro hb2 (And.intro hx2 (And.intro hm2 (And.intro ht2 (And.intro hw2 (And.intro hxs (And.intro hms ho2)))))))
  clear hb2 hx2 hm2 hxs hms hmx ho2 hc2 hf2 ht2 hw2 hal q2 q3
  unfold ptr at q4 q5
  go_wp2_with fail
  go_at_call 18
  refine q4.out.mono ?_
  rintro e w3 ⟨rfl, hw3⟩
  subst hw3
  go_wp2_with fail
  go_at_call 26
  refine q5.out.mono ?_
  rintro e w4 ⟨old, had, tx, root', cc, rfl, hx4, hm4, ht4, hv4, hl4, hmk4, ho4⟩
  obtain ⟨es, cl, hmo, -⟩ := id H2.out.2.2.1
  have hbx : b ≠ x := fun e => by
    have h1 := H2.out.1.base
    rw [e, H2.out.2.1] at h1
    cases h1
  have hbm : b ≠ mb := fun e => by
    have h1 := H2.out.1.base
    rw [e, hmo] at h1
    cases h1
  have hvx : v ≠ x := fun e => by
    have h1 := H2.out.1.ver
    rw [e, H2.out.2.1] at h1
    cases h1
  have hvm : v ≠ mb := fun e => by
    have h1 := H2.out.1.ver
    rw [e, hmo] at h1
    cases h1
  have hb4 : BaseAt w4 b v tb 0 true := ⟨ho4.at H2.out.1.base (fun e => by rcases e with e | e; exact hbm e; exact hbx e), ho4.at H2.out.1.ver (fun e => by rcases e with e | e; exact hvm e; exact hvx e)⟩
  have hf4 : FarP tXB w3 w4 := fun k cs t fr hk hq => ho4.at hk (fun e => by
    rcases e with e | e
    · rw [e, hmo] at hk; cases hk
    · rw [e, H2.out.2.1] at hk
      injection hk with e1
      injection e1 with _ e2 _
      rw [← e2] at hq
      cases hq)
  have htb4 : Tr w4 tb root := hf4.tr rfl rfl rfl rfl H2.out.2.2.2.1
  have hw4 : WatchAt w4 (c + 1) c false := ⟨hf4 _ _ _ _ H2.out.2.2.2.2.1.obj rfl, ho4.at H2.out.2.2.2.2.1.ch (fun e => by
    rcases e with e | e
    · have h1 := H2.out.2.2.2.2.1.ch
      rw [e, hmo] at h1
      cases h1
    · have h1 := H2.out.2.2.2.2.1.ch
      rw [e, H2.out.2.1] at h1
      cases h1)⟩
  have hmr : ∀ m ∈ mks root, m = ptr (c + 1) := fun m hm => by
    rw [← HR.out, mks_empty] at hm
    exact List.mem_singleton.1 hm
  have hM4 : Mks w4 root := fun m hm => ⟨c, false, hmr m hm, hw4⟩
  have hks := keys_one (.lit (.int .i64 cc)) (⟨#[97]⟩ : ByteArray).data.toList
  have q6 := Aside0.mk (txnCommit w4 x b v tb tx mb 1 0 _ root hb4 hx4 hm4 (by omega) htb4 hM4 (fun s hs => by rw [hks] at hs; rw [List.mem_singleton.1 hs]; decide) (by rw [hks]; simp) (by omega) (by omega))
  have hval : valT root' (L ⟨#[97]⟩) = some (.int .i64 5) := by rw [hv4, if_pos rfl]
  have H4 := Aside0.mk (And.intro hw4 (And.intro hks (And.intro ht4 (And.intro ho4 (And.intro hmr hval)))))
  clear hmo hbx hbm hvx hvm hb4 hf4 htb4 hw4 hmr hM4 hks hx4 hm4 ht4 hv4 hl4 hmk4 ho4 q4 q5 hval
  unfold ptr at q6
  go_wp2_with fail
  go_at_call 30
  refine q6.out.mono ?_
  rintro e w5 ⟨cnt, rfl, hD⟩
  have hcnt : cnt = 1 := by
    obtain ⟨W, ks, hW, hp, e⟩ := hD.count
    rw [H4.out.2.1] at hp
    have h1 := List.perm_singleton.1 hp
    obtain ⟨k, ek⟩ : ∃ k, ks = [k] := by
      cases ks with
      | nil => cases h1
      | cons k r =>
        cases r with
        | nil => exact ⟨k, rfl⟩
        | cons _ _ =>
          have h2 := congrArg List.length h1
          simp at h2
    rw [e, ek, ← HR.out]
    exact fire_one W nb c k (hW _ _ H4.out.1)
  subst hcnt
  obtain ⟨v5, hb5⟩ := hD.base
  have ht5 : Tr w5 tx root' := hD.far.tr rfl rfl rfl rfl H4.out.2.2.1
  have q7 := Aside0.mk (baseTree w5 b v5 tx _ false hb5)
  have q8 := Aside0.mk (baseVersion w5 b v5 tx _ false hb5)
  have q9 := T.getC w5 tx root' ht5 ⟨#[97]⟩ (by decide)
  rw [H4.out.2.2.2.2.2] at q9
  have Q9 := Aside0.mk q9
  have HD := Aside0.mk hD
  clear hD hb5 ht5 q9 q6
  have hB : Aside0 (Below w.heap.size w w5) := ⟨by
    have b2 := H2.out.2.2.2.2.2.2.2.below w.heap.size H1.out.2.2.2.2.2.size (fun k _ e => by rw [e]; exact H1.out.2.2.2.1)
    have s1 := H1.out.2.2.2.2.2.size
    have s2 := H2.out.2.2.2.2.2.2.2.size
    have b4 := H4.out.2.2.2.1.below w.heap.size (by omega) (fun k _ e => by
      have := H2.out.2.2.2.2.2.1
      have := H2.out.2.2.2.2.2.2.1
      rcases e with e | e <;> omega)
    have s4 := H4.out.2.2.2.1.size
    have b5 := HD.out.below w.heap.size (by omega) (by have := H2.out.2.2.2.2.2.1; omega) H1.out.2.2.2.1 (fun m hm => by
      rw [H4.out.2.2.2.2.1 m hm]
      exact H1.out.2.2.2.2.1)
    exact ((H1.out.2.2.2.2.2.trans b2).trans b4).trans b5⟩
  unfold ptr at q7 q8 Q9
  unfold T.gotV at Q9
  go_wp2_with fail
  go_at_call 12
  refine q7.out.mono ?_
  rintro e w6 ⟨rfl, hw6⟩
  subst hw6
  go_wp2_with fail
  go_at_call 11
  refine q8.out.mono ?_
  rintro e w7 ⟨rfl, hw7⟩
  subst hw7
  go_wp2_with fail
  go_at_call 15
  refine Q9.out.mono ?_
  rintro e w8 ⟨rfl, hb8⟩
  have HB8 := Aside0.mk hb8
  clear hb8 q7 q8 Q9
  go_wp2_with fail
  go_ret
  exact ⟨rfl, T.belowAt hB.out HB8.out⟩
end Go.Proofs.YtjhgknagmiekeaaGreat.G
set_option linter.unusedVariables false
set_option linter.unusedSimpArgs false
namespace Go.Proofs.YtjhgknagmiekeaaGreat.G
open Go.RowKit Go.Lib Go.Proofs Go.Conc Go.Maps
open Go.Proofs.YtjhgknagmiekeaaGreatW.PrintWords hiding Kept
open Go.Proofs.YtjhgknagmiekeaaGreatW.PrintLast
open Go.Proofs.YtjhgknagmiekeaaGreat.T (Nd NdAt ptr Tr L All valT wasV Lf Strs delN emptyN)
attribute [local go_sem] Oper.semAt_some
def BoolsAt (w : World) (A : Option Addr) (bs : List Bool) : Prop := ∀ i (h : i < bs.length), ∃ ad, A = some ad ∧ w.cell? (ad.add i) = some (.bool bs[i])
theorem BoolsAt.keep {w w' : World} {A : Option Addr} {l : List Bool} (h : BoolsAt w A l) (k : T.Kept w w') : BoolsAt w' A l := fun i hi => by
  obtain ⟨ad, e, h0⟩ := h i hi
  exact ⟨ad, e, k.cell h0⟩
structure Own (B : Nat) (w : World) (b : Nat) (root : Nd) (n : Int) : Prop where
  base : ∃ v tb, BaseAt w b v tb n false ∧ Tr w tb root
  mkd : Mks w root
  low : B ≤ b ∧ ∀ m ∈ mks root, B ≤ chOf m
theorem Own.after {B : Nat} {w w' : World} {b : Nat} {root root' : Nd} {n n' : Int} (h : Own B w b root n) (hB : B ≤ w.heap.size) (a : After w w' b root root' n') : Own B w' b root' n' ∧ Below B w w' :=
  ⟨⟨a.base, a.mkd, h.low.1, (a.below B hB h.low.1 h.low.2).2⟩, (a.below B hB h.low.1 h.low.2).1⟩
theorem Own.belowG {B : Nat} {w w' : World} {b : Nat} {root : Nd} {n : Int} (h : Own B w b root n) (hb : Below w.heap.size w w') : Own B w' b root n := by
  obtain ⟨v, tb, h1, h2⟩ := h.base
  exact ⟨⟨v, tb, h1.move (hb.block _ (Array.getElem?_eq_some_iff.1 h1.base).1) (hb.block _ (Array.getElem?_eq_some_iff.1 h1.ver).1), h2.keep (T.Kept.of hb)⟩, h.mkd.belowG hb, h.low⟩
set_option maxRecDepth 100000 in
set_option maxHeartbeats 4000000 in
theorem newOwn (w : World) : Calls Tryz.prog 9 #[] w fun e w' => ∃ b root, e = .returned (ptr b) ∧ Own w.heap.size w' b root 0 ∧ (All root).length = 0 ∧ Below w.heap.size w w' ∧ (∀ r, valT root r = none) := by
  refine (newB w).mono ?_
  rintro e w' ⟨b, v, tb, nb, c, rfl, hb, ht, hw, h1, h2, h3, hB⟩
  have ht2 : Tr w' tb (emptyN nb (ptr (c + 1))) := ⟨by rw [T.all_empty]; exact ht, T.fine_empty _ _, T.vals_empty _ _⟩
  have hm : ∀ m ∈ mks (emptyN nb (ptr (c + 1))), m = ptr (c + 1) := fun m hm => by
    rw [mks_empty] at hm
    exact List.mem_singleton.1 hm
  exact ⟨b, _, rfl, ⟨⟨v, tb, hb, ht2⟩, fun m h => ⟨c, false, hm m h, hw⟩, h1, fun m h => by rw [hm m h]; exact h3⟩, by rw [T.all_empty]; rfl, hB, T.valT_empty _ _⟩
theorem doneOwn (B : Nat) (w : World) (hB : B ≤ w.heap.size) (b : Nat) (n : Int) (root : Nd) (h : Own B w b root n) (A : Option Addr) (c : Nat) (cs : List Chg)
    (hR : ∀ W, FarP tAll w W → Below B w W → ChAt W A cs) (hk : ∀ c ∈ cs, c.key.size < 4000000000000) (hlen : cs.length < 1000000000) (hs : (All root).length + cs.length < 3999999999999) (hn0 : 0 ≤ n) (hn1 : n < 1000000000000) (com : Bool) :
    Calls Tryz.prog 10 #[ptr b, .slice A cs.length c, .bool com] w fun e w' => e = .returned (.bool true) ∧ ∃ root', Own B w' b root' (nOf com (valT root) cs n) ∧ After w w' b root root' (nOf com (valT root) cs n) ∧ (All root').length ≤ (All root).length + cs.length ∧ (∀ r, valT root' r = vOf com (valT root) cs r) ∧ Below B w w' := by
  obtain ⟨v, tb, h1, h2⟩ := h.base
  refine (doneC w b v tb n root h1 h2 h.mkd A c cs (fun W h3 h4 => hR W h3 (h4 B hB h.low.1)) hk hlen hs hn0 hn1 com).mono ?_
  rintro e w' ⟨rfl, root', n', ha, hl, hv, rfl⟩
  exact ⟨rfl, root', (h.after hB ha).1, ha, hl, hv, (h.after hB ha).2⟩
end Go.Proofs.YtjhgknagmiekeaaGreat.G
