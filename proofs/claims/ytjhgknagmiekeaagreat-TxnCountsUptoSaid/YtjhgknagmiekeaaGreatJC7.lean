/- joined: G16 H4 -/
import Derived.Test.YtjhgknagmiekeaaGreatJC6
import Derived.Test.YtjhgknagmiekeaaGreatJC5
set_option linter.unusedVariables false
set_option linter.unusedSimpArgs false
namespace Go.Proofs.YtjhgknagmiekeaaGreat.G
open Go.RowKit Go.Lib Go.Proofs Go.Conc Go.Maps
open Go.Proofs.YtjhgknagmiekeaaGreatW.PrintWords hiding Kept
open Go.Proofs.YtjhgknagmiekeaaGreatW.PrintLast
open Go.Proofs.YtjhgknagmiekeaaGreat.T (Nd NdAt ptr Tr L All valT wasV Lf Strs emptyN wayF wayF_none)
theorem mks_empty (nb : Nat) (m : Value) : mks (emptyN nb m) = [m] := by
  rw [mks_eq]
  rfl
theorem keys_one (e : DataW Unit) (s : List UInt8) : strKeys ((DataW.map [] : DataW Unit).put (.string s) e) = [s] := rfl
theorem fire_one (W : World) (nb c : Nat) (k : ByteArray) (h : WatchAt W (c + 1) c false) : (fireAll W (emptyN nb (ptr (c + 1))) [k]).2 = 1 := by
  obtain ⟨n, en⟩ : ∃ n, emptyN nb (ptr (c + 1)) = n := ⟨_, rfl⟩
  have hd : ∀ r, T.downN n r = none := fun r => by
    rw [← en]
    unfold T.downN
    split
    · rfl
    · rfl
  have hm : ∀ a, marksOn k n a = [c] := fun a => by
    rw [← en]
    unfold marksOn
    show _ :: (if a = k.size then [] else []) = _
    rw [ite_self]
    rfl
  have hs : ∀ (f a : Nat) (s : (Nat → Bool) × Int), wayF (stepW W k) k (f + 1) (some n) a s = shootC W s c := fun f a s => by
    rw [wayF, hd, wayF_none]
    unfold stepW
    rw [hm]
    rfl
  have e : fireAll W n [k] = shootC W (fun _ => false, 0) c := by
    unfold fireAll
    rw [List.foldl_cons, List.foldl_nil]
    unfold fireK
    have h2 : k.size + 2 = k.size + 1 + 1 := rfl
    rw [h2]
    exact hs (k.size + 1) 0 _
  rw [en]
  rw [e]
  show (if (shutAt W c || false) = true then (0 : Int) else wrap64 (0 + 1)) = 1
  rw [shutAt_of h]
  decide +kernel
set_option maxRecDepth 100000 in
set_option maxHeartbeats 4000000 in
theorem txnAlive (w : World) : Calls Tryz.prog 8 #[] w fun e w' => e = .returned (.bool true) ∧ Below w.heap.size w w' := by
  have q1 := Aside0.mk (newB w)
  go_enter Tryz.func8, Tryz.ntmps8
  unfold ptr at q1
  go_wp2_with fail
  go_at_call 9
  refine q1.out.mono ?_
  rintro e w1 ⟨b, v, tb, nb, c, rfl, hbA, htA, hwa, h1, h2, h3, hbel⟩
  obtain ⟨root, er⟩ : ∃ r, emptyN nb (ptr (c + 1)) = r := ⟨_, rfl⟩
  have ht : Tr w1 tb root := by rw [← er]; exact ⟨by rw [T.all_empty]; exact htA, T.fine_empty _ _, T.vals_empty _ _⟩
  have q2 := Aside0.mk (baseVersion w1 b v tb 0 false hbA)
  have q3 := Aside0.mk (beginFree w1 b v tb 0 hbA)
  have H1 := Aside0.mk (And.intro hbA (And.intro ht (And.intro hwa (And.intro h1 (And.intro h3 hbel)))))
  have HR := Aside0.mk er
  clear hbA htA hwa h1 h2 h3 hbel ht er q1
  unfold ptr at q2 q3
  go_wp2_with fail
  go_at_call 11
  refine q2.out.mono ?_
  rintro e w' ⟨rfl, hw⟩
  subst hw
  go_wp2_with fail
  go_at_call 18
  refine q3.out.mono ?_
  rintro e w2 ⟨x, mb, rfl, hb2, hx2, hm2, hxs, hms, hmx, ho2⟩
  have q4 := Aside0.mk (beginHeld w2 b v tb 0 hb2)
  have hc2 : CellsOf w' tXB (fun k => k = b) := fun k e => by rw [e]; exact ⟨_, _, _, H1.out.1.base, rfl⟩
  have hf2 := ho2.farP hc2
  have ht2 : Tr w2 tb root := hf2.tr rfl rfl rfl rfl H1.out.2.1
  have hw2 := ho2.watch hc2 rfl H1.out.2.2.1
  have hal : All root = [] := by rw [← HR.out]; exact T.all_empty _ _
  have q5 := Aside0.mk (txnSet w2 x b tb mb 0 _ root hx2 hm2 (by omega) ht2 ⟨#[97]⟩ 5 (by decide) (by rw [hal]; decide))
  have H2 := Aside0.mk (And.intro hb2 (And.intro hx2 (And.intro hm2 (And.intro ht2 (And.intro hw2 (And.intro hxs (And.intro hms ho2)))))))
  clear hb2 hx2 hm2 hxs hms hmx ho2 hc2 hf2 ht2 hw2 hal q2 q3
  unfold ptr at q4 q5
  go_wp2_with fail
  go_at_call 18
  refine q4.out.mono ?_
  rintro e w3 ⟨rfl, hw3⟩
  subst hw3
  go_wp2_with fail
  go_at_call 26
  refine q5.out.mono ?_
  rintro e w4 ⟨old, had, tx, root', cc, rfl, hx4, hm4, ht4, hv4, hl4, hmk4, ho4⟩
  obtain ⟨es, cl, hmo, -⟩ := id H2.out.2.2.1
  have hbx : b ≠ x := fun e => by
    have h1 := H2.out.1.base
    rw [e, H2.out.2.1] at h1
    cases h1
  have hbm : b ≠ mb := fun e => by
    have h1 := H2.out.1.base
    rw [e, hmo] at h1
    cases h1
  have hvx : v ≠ x := fun e => by
    have h1 := H2.out.1.ver
    rw [e, H2.out.2.1] at h1
    cases h1
  have hvm : v ≠ mb := fun e => by
    have h1 := H2.out.1.ver
    rw [e, hmo] at h1
    cases h1
  have hb4 : BaseAt w4 b v tb 0 true := ⟨ho4.at H2.out.1.base (fun e => by rcases e with e | e; exact hbm e; exact hbx e), ho4.at H2.out.1.ver (fun e => by rcases e with e | e; exact hvm e; exact hvx e)⟩
  have hf4 : FarP tXB w3 w4 := fun k cs t fr hk hq => ho4.at hk (fun e => by
    rcases e with e | e
    · rw [e, hmo] at hk; cases hk
    · rw [e, H2.out.2.1] at hk
      injection hk with e1
      injection e1 with _ e2 _
      rw [← e2] at hq
      cases hq)
  have htb4 : Tr w4 tb root := hf4.tr rfl rfl rfl rfl H2.out.2.2.2.1
  have hw4 : WatchAt w4 (c + 1) c false := ⟨hf4 _ _ _ _ H2.out.2.2.2.2.1.obj rfl, ho4.at H2.out.2.2.2.2.1.ch (fun e => by
    rcases e with e | e
    · have h1 := H2.out.2.2.2.2.1.ch
      rw [e, hmo] at h1
      cases h1
    · have h1 := H2.out.2.2.2.2.1.ch
      rw [e, H2.out.2.1] at h1
      cases h1)⟩
  have hmr : ∀ m ∈ mks root, m = ptr (c + 1) := fun m hm => by
    rw [← HR.out, mks_empty] at hm
    exact List.mem_singleton.1 hm
  have hM4 : Mks w4 root := fun m hm => ⟨c, false, hmr m hm, hw4⟩
  have hks := keys_one (.lit (.int .i64 cc)) (⟨#[97]⟩ : ByteArray).data.toList
  have q6 := Aside0.mk (txnCommit w4 x b v tb tx mb 1 0 _ root hb4 hx4 hm4 (by omega) htb4 hM4 (fun s hs => by rw [hks] at hs; rw [List.mem_singleton.1 hs]; decide) (by rw [hks]; simp) (by omega) (by omega))
  have hval : valT root' (L ⟨#[97]⟩) = some (.int .i64 5) := by rw [hv4, if_pos rfl]
  have H4 := Aside0.mk (And.intro hw4 (And.intro hks (And.intro ht4 (And.intro ho4 (And.intro hmr hval)))))
  clear hmo hbx hbm hvx hvm hb4 hf4 htb4 hw4 hmr hM4 hks hx4 hm4 ht4 hv4 hl4 hmk4 ho4 q4 q5 hval
  unfold ptr at q6
  go_wp2_with fail
  go_at_call 30
  refine q6.out.mono ?_
  rintro e w5 ⟨cnt, rfl, hD⟩
  have hcnt : cnt = 1 := by
    obtain ⟨W, ks, hW, hp, e⟩ := hD.count
    rw [H4.out.2.1] at hp
    have h1 := List.perm_singleton.1 hp
    obtain ⟨k, ek⟩ : ∃ k, ks = [k] := by
      cases ks with
      | nil => cases h1
      | cons k r =>
        cases r with
        | nil => exact ⟨k, rfl⟩
        | cons _ _ =>
          have h2 := congrArg List.length h1
          simp at h2
    rw [e, ek, ← HR.out]
    exact fire_one W nb c k (hW _ _ H4.out.1)
  subst hcnt
  obtain ⟨v5, hb5⟩ := hD.base
  have ht5 : Tr w5 tx root' := hD.far.tr rfl rfl rfl rfl H4.out.2.2.1
  have q7 := Aside0.mk (baseTree w5 b v5 tx _ false hb5)
  have q8 := Aside0.mk (baseVersion w5 b v5 tx _ false hb5)
  have q9 := T.getC w5 tx root' ht5 ⟨#[97]⟩ (by decide)
  rw [H4.out.2.2.2.2.2] at q9
  have Q9 := Aside0.mk q9
  have HD := Aside0.mk hD
  clear hD hb5 ht5 q9 q6
  have hB : Aside0 (Below w.heap.size w w5) := ⟨by
    have b2 := H2.out.2.2.2.2.2.2.2.below w.heap.size H1.out.2.2.2.2.2.size (fun k _ e => by rw [e]; exact H1.out.2.2.2.1)
    have s1 := H1.out.2.2.2.2.2.size
    have s2 := H2.out.2.2.2.2.2.2.2.size
    have b4 := H4.out.2.2.2.1.below w.heap.size (by omega) (fun k _ e => by
      have := H2.out.2.2.2.2.2.1
      have := H2.out.2.2.2.2.2.2.1
      rcases e with e | e <;> omega)
    have s4 := H4.out.2.2.2.1.size
    have b5 := HD.out.below w.heap.size (by omega) (by have := H2.out.2.2.2.2.2.1; omega) H1.out.2.2.2.1 (fun m hm => by
      rw [H4.out.2.2.2.2.1 m hm]
      exact H1.out.2.2.2.2.1)
    exact ((H1.out.2.2.2.2.2.trans b2).trans b4).trans b5⟩
  unfold ptr at q7 q8 Q9
  unfold T.gotV at Q9
  go_wp2_with fail
  go_at_call 12
  refine q7.out.mono ?_
  rintro e w6 ⟨rfl, hw6⟩
  subst hw6
  go_wp2_with fail
  go_at_call 11
  refine q8.out.mono ?_
  rintro e w7 ⟨rfl, hw7⟩
  subst hw7
  go_wp2_with fail
  go_at_call 15
  refine Q9.out.mono ?_
  rintro e w8 ⟨rfl, hb8⟩
  have HB8 := Aside0.mk hb8
  clear hb8 q7 q8 Q9
  go_wp2_with fail
  go_ret
  exact ⟨rfl, T.belowAt hB.out HB8.out⟩
end Go.Proofs.YtjhgknagmiekeaaGreat.G
set_option linter.unusedVariables false
set_option linter.unusedSimpArgs false
namespace Go.Proofs.YtjhgknagmiekeaaGreat.G
open Go.RowKit Go.Lib Go.Proofs Go.Conc Go.Maps
open Go.Proofs.YtjhgknagmiekeaaGreatW.PrintWords hiding Kept
open Go.Proofs.YtjhgknagmiekeaaGreatW.PrintLast
open Go.Proofs.YtjhgknagmiekeaaGreat.T (Nd NdAt ptr Tr L All valT wasV Lf Strs delN emptyN)
attribute [local go_sem] Oper.semAt_some
def BoolsAt (w : World) (A : Option Addr) (bs : List Bool) : Prop := ∀ i (h : i < bs.length), ∃ ad, A = some ad ∧ w.cell? (ad.add i) = some (.bool bs[i])
theorem BoolsAt.keep {w w' : World} {A : Option Addr} {l : List Bool} (h : BoolsAt w A l) (k : T.Kept w w') : BoolsAt w' A l := fun i hi => by
  obtain ⟨ad, e, h0⟩ := h i hi
  exact ⟨ad, e, k.cell h0⟩
structure Own (B : Nat) (w : World) (b : Nat) (root : Nd) (n : Int) : Prop where
  base : ∃ v tb, BaseAt w b v tb n false ∧ Tr w tb root
  mkd : Mks w root
  low : B ≤ b ∧ ∀ m ∈ mks root, B ≤ chOf m
theorem Own.after {B : Nat} {w w' : World} {b : Nat} {root root' : Nd} {n n' : Int} (h : Own B w b root n) (hB : B ≤ w.heap.size) (a : After w w' b root root' n') : Own B w' b root' n' ∧ Below B w w' :=
  ⟨⟨a.base, a.mkd, h.low.1, (a.below B hB h.low.1 h.low.2).2⟩, (a.below B hB h.low.1 h.low.2).1⟩
theorem Own.belowG {B : Nat} {w w' : World} {b : Nat} {root : Nd} {n : Int} (h : Own B w b root n) (hb : Below w.heap.size w w') : Own B w' b root n := by
  obtain ⟨v, tb, h1, h2⟩ := h.base
  exact ⟨⟨v, tb, h1.move (hb.block _ (Array.getElem?_eq_some_iff.1 h1.base).1) (hb.block _ (Array.getElem?_eq_some_iff.1 h1.ver).1), h2.keep (T.Kept.of hb)⟩, h.mkd.belowG hb, h.low⟩
set_option maxRecDepth 100000 in
set_option maxHeartbeats 4000000 in
theorem newOwn (w : World) : Calls Tryz.prog 9 #[] w fun e w' => ∃ b root, e = .returned (ptr b) ∧ Own w.heap.size w' b root 0 ∧ (All root).length = 0 ∧ Below w.heap.size w w' ∧ (∀ r, valT root r = none) := by
  refine (newB w).mono ?_
  rintro e w' ⟨b, v, tb, nb, c, rfl, hb, ht, hw, h1, h2, h3, hB⟩
  have ht2 : Tr w' tb (emptyN nb (ptr (c + 1))) := ⟨by rw [T.all_empty]; exact ht, T.fine_empty _ _, T.vals_empty _ _⟩
  have hm : ∀ m ∈ mks (emptyN nb (ptr (c + 1))), m = ptr (c + 1) := fun m hm => by
    rw [mks_empty] at hm
    exact List.mem_singleton.1 hm
  exact ⟨b, _, rfl, ⟨⟨v, tb, hb, ht2⟩, fun m h => ⟨c, false, hm m h, hw⟩, h1, fun m h => by rw [hm m h]; exact h3⟩, by rw [T.all_empty]; rfl, hB, T.valT_empty _ _⟩
theorem doneOwn (B : Nat) (w : World) (hB : B ≤ w.heap.size) (b : Nat) (n : Int) (root : Nd) (h : Own B w b root n) (A : Option Addr) (c : Nat) (cs : List Chg)
    (hR : ∀ W, FarP tAll w W → Below B w W → ChAt W A cs) (hk : ∀ c ∈ cs, c.key.size < 4000000000000) (hlen : cs.length < 1000000000) (hs : (All root).length + cs.length < 3999999999999) (hn0 : 0 ≤ n) (hn1 : n < 1000000000000) (com : Bool) :
    Calls Tryz.prog 10 #[ptr b, .slice A cs.length c, .bool com] w fun e w' => e = .returned (.bool true) ∧ ∃ root', Own B w' b root' (nOf com (valT root) cs n) ∧ After w w' b root root' (nOf com (valT root) cs n) ∧ (All root').length ≤ (All root).length + cs.length ∧ (∀ r, valT root' r = vOf com (valT root) cs r) ∧ Below B w w' := by
  obtain ⟨v, tb, h1, h2⟩ := h.base
  refine (doneC w b v tb n root h1 h2 h.mkd A c cs (fun W h3 h4 => hR W h3 (h4 B hB h.low.1)) hk hlen hs hn0 hn1 com).mono ?_
  rintro e w' ⟨rfl, root', n', ha, hl, hv, rfl⟩
  exact ⟨rfl, root', (h.after hB ha).1, ha, hl, hv, (h.after hB ha).2⟩
set_option maxRecDepth 100000 in
set_option maxHeartbeats 8000000 in
theorem countsLaw (A : Option Addr) (c : Nat) (ks : List ByteArray) (A2 : Option Addr) (c2 : Nat) (bs : List Bool) (w : World) (hA : Strs w A ks) (hA2 : BoolsAt w A2 bs) (hl1 : ks.length < 100000000) (hl2 : bs.length < 100000000) (hk : ∀ k ∈ ks, k.size < 4000000000000) :
    Calls Tryz.prog 3 #[.slice A ks.length c, .slice A2 bs.length c2] w fun e w' => e = .returned (.bool true) ∧ Below w.heap.size w w' := by
  have q1 := Aside0.mk (txnAlive w)
  have HA := Aside0.mk (And.intro hA hA2)
  have HK := Aside0.mk hk
  obtain ⟨N, eN⟩ : ∃ N, ks.length = N := ⟨_, rfl⟩
  obtain ⟨M, eM⟩ : ∃ M, bs.length = M := ⟨_, rfl⟩
  have HN := Aside0.mk (And.intro eN eM)
  have hN : N < 100000000 := by omega
  have hM : M < 100000000 := by omega
  rw [eN, eM]
  clear hA hA2 hk hl1 hl2 eN eM
  go_enter Tryz.func3, Tryz.ntmps3
  go_wp2_with fail
  go_at_call 8
  refine q1.out.mono ?_
  rintro e w1 ⟨rfl, hb1⟩
  have q2 := Aside0.mk (newOwn w1)
  have HB1 := Aside0.mk hb1
  clear hb1 q1
  go_wp2_with fail
  go_at_call 9
  refine q2.out.mono ?_
  rintro e w2 ⟨b, root0, rfl, ho2, hl2, hb2, -⟩
  have HB2 := Aside0.mk (T.belowAt HB1.out hb2)
  have HO2 : Aside0 (Own w.heap.size w2 b root0 0 ∧ (All root0).length = 0) := ⟨⟨ho2.base, ho2.mkd, Nat.le_trans HB1.out.size ho2.low.1, fun m hm => Nat.le_trans HB1.out.size (ho2.low.2 m hm)⟩, hl2⟩
  clear ho2 hl2 hb2 q2
  unfold ptr
  go_wp2_with fail
  go_loopg [6, 17] (N + 1) (fun kq v6 v17 W => ∃ (i : Nat) (n : Int) (root : Nd), v6 = .int .u64 n ∧ v17 = .int .i64 (i : Int) ∧ Aside0 (i + kq = N + 1 ∧ i ≤ N ∧ 0 ≤ n ∧ n ≤ i) ∧ Aside0 (Own w.heap.size W b root n ∧ (All root).length ≤ i) ∧ Aside0 (Below w.heap.size w W))
  case atStart => exact ⟨0, 0, root0, rfl, rfl, ⟨by omega⟩, ⟨HO2.out.1, by rw [HO2.out.2]; exact Nat.le_refl _⟩, HB2⟩
  case round =>
    obtain ⟨i, n, root, rfl, rfl, HI, HO, HB⟩ := hrel
    by_cases hi : i < N
    · have hi' : i < ks.length := by rw [HN.out.1]; exact hi
      obtain ⟨ad, ea, k0⟩ := (HA.out.1.keep (T.Kept.of HB.out)) i hi'
      obtain ⟨k, ek⟩ : ∃ k, ks[i] = k := ⟨_, rfl⟩
      have hks : Aside0 (k.size < 4000000000000) := ⟨HK.out k (by rw [← ek]; exact List.getElem_mem _)⟩
      rw [ek] at k0
      subst ea
      clear ek hi'
      have hin : (i : Int) < (N : Int) := by omega
      have hcom : ∃ com : Bool, (if h : i < bs.length then bs[i] else false) = com := ⟨_, rfl⟩
      obtain ⟨com, ecom⟩ := hcom
      have hrow : Aside0 ((wr.alloc (Obj.cells #[.bool false, .string k, .int .i64 (i : Int)] 30)).heap[wr.heap.size]? = some (.cells #[.bool false, .string k, .int .i64 (i : Int)] 30 (0, 0)) ∧ Below wr.heap.size wr (wr.alloc (Obj.cells #[.bool false, .string k, .int .i64 (i : Int)] 30))) := ⟨World.alloc_heap_new wr _, (Below.refl _ wr).alloc (Nat.le_refl _) _⟩
      obtain ⟨G, eG⟩ : ∃ G, wr.heap.size = G := ⟨_, rfl⟩
      obtain ⟨W4, eW4⟩ : ∃ W4, wr.alloc (Obj.cells #[.bool false, .string k, .int .i64 (i : Int)] 30) = W4 := ⟨_, rfl⟩
      rw [eW4, eG] at hrow
      have HO4 : Aside0 (Own w.heap.size W4 b root n ∧ Below w.heap.size w W4) := ⟨HO.out.1.belowG (by rw [eG]; exact hrow.out.2), T.belowAt HB.out (by rw [eG]; exact hrow.out.2)⟩
      have q3 := Aside0.mk (doneOwn w.heap.size W4 HO4.out.2.size b n root HO4.out.1 (some ⟨G, 0, none⟩) 1 [⟨false, k, (i : Int)⟩] (fun W hf _ j hj => by
        have hj0 : j = 0 := by simpa using hj
        subst hj0
        have hw := hf _ _ _ _ hrow.out.1 rfl
        exact ⟨_, rfl, by show W.cell? ⟨G, 0, none⟩ = _; rw [blk_cell hw]; rfl, by show W.cell? ⟨G, 1, none⟩ = _; rw [blk_cell hw]; rfl, by show W.cell? ⟨G, 2, none⟩ = _; rw [blk_cell hw]; rfl⟩) (fun c hc => by rw [List.mem_singleton.1 hc]; exact hks.out) (by simp) (by have := HO.out.2; show _ + 1 < _; omega) HI.out.2.2.1 (by have := HI.out.2.2.2; omega) com)
      by_cases hj : i < M
      · have hj' : i < bs.length := by rw [HN.out.2]; exact hj
        obtain ⟨ad2, ea2, c0⟩ := (HA.out.2.keep (T.Kept.of HB.out)) i hj'
        rw [dif_pos hj'] at ecom
        rw [ecom] at c0
        subst ea2
        have hjm : (i : Int) < (M : Int) := by omega
        clear ecom hj'
        go_upto_region 11 with fail
        go_wp2_with fail
        go_at_call 10
        refine q3.out.mono ?_
        rintro e w5 ⟨rfl, root5, ho5, -, hl5, -, hb5⟩
        have HB5 : Aside0 (Below w.heap.size w w5) := ⟨HO4.out.2.trans hb5⟩
        obtain ⟨n5, en5⟩ : ∃ n5, nOf com (valT root) [⟨false, k, (i : Int)⟩] n = n5 := ⟨_, rfl⟩
        have hn5 : n5 = (if com then n + 1 else n) := by rw [← en5]; cases com <;> rfl
        rw [en5] at ho5
        have q4 := Aside0.mk (doneOwn w.heap.size w5 HB5.out.size b n5 root5 ho5 none 0 [] (fun W _ _ j hj => by exact absurd hj (Nat.not_lt_zero _)) (fun c hc => by cases hc) (by decide) (by have := HO.out.2; have h9 : (All root5).length ≤ (All root).length + 1 := hl5; show _ + 0 < _; omega) (by have := HI.out.2.2.1; have := HI.out; split at hn5 <;> omega) (by have := HI.out.2.2.2; have := HI.out; split at hn5 <;> omega) true)
        have HL5 : Aside0 ((All root5).length ≤ (All root).length + 1) := ⟨hl5⟩
        clear ho5 hl5 hb5 q3 k0 en5 c0 hin hjm eW4 eG
        go_wp2_with fail
        go_at_call 10
        refine q4.out.mono ?_
        rintro e w6 ⟨rfl, root6, ho6, -, hl6, -, hb6⟩
        have e6 : nOf true (valT root5) [] n5 = n5 := rfl
        rw [e6] at ho6
        have HO6 := Aside0.mk (And.intro ho6 (And.intro (show (All root6).length ≤ i + 1 from by have := HO.out.2; have := HL5.out; have h9 : (All root6).length ≤ (All root5).length + 0 := hl6; omega) (HB5.out.trans hb6)))
        clear ho6 hl6 hb6 q4 e6
        obtain ⟨v6, tb6, hb9, -⟩ := HO6.out.1.base
        have q5 := Aside0.mk (baseVersion w6 b v6 tb6 n5 false hb9)
        clear hb9
        unfold ptr at q5
        have hwr : IntKind.u64.wrap (n + 1) = n + 1 := by rw [IntKind.wrap_u64]; have := HI.out; omega
        cases com with
        | true =>
          subst hn5
          have e7 : (if true = true then n + 1 else n) = n + 1 := rfl
          rw [e7] at q5 HO6
          clear e7
          go_wp2_with fail
          go_at_call 11
          refine q5.out.mono ?_
          rintro e w7 ⟨rfl, hw7⟩
          subst hw7
          clear q5
          go_wp2_with fail
          go_roundg (N - i)
          case measure => have := HI.out; omega
          case rel => exact ⟨i + 1, _, root6, rfl, by simp, ⟨by have := HI.out; omega⟩, ⟨HO6.out.1, HO6.out.2.1⟩, ⟨HO6.out.2.2⟩⟩
        | false =>
          have hn6 : n5 = n := hn5
          clear hn5 hwr
          subst hn6
          go_wp2_with fail
          go_at_call 11
          refine q5.out.mono ?_
          rintro e w7 ⟨rfl, hw7⟩
          subst hw7
          clear q5
          go_wp2_with fail
          go_roundg (N - i)
          case measure => have := HI.out; omega
          case rel => exact ⟨i + 1, _, root6, rfl, by simp, ⟨by have := HI.out; omega⟩, ⟨HO6.out.1, HO6.out.2.1⟩, ⟨HO6.out.2.2⟩⟩
      · have hj' : ¬ i < bs.length := by rw [HN.out.2]; exact hj
        rw [dif_neg hj'] at ecom
        subst ecom
        have hjm : ¬ (i : Int) < (M : Int) := by omega
        clear hj'
        go_upto_region 11 with fail
        go_wp2_with fail
        go_at_call 10
        refine q3.out.mono ?_
        rintro e w5 ⟨rfl, root5, ho5, -, hl5, -, hb5⟩
        have HB5 : Aside0 (Below w.heap.size w w5) := ⟨HO4.out.2.trans hb5⟩
        obtain ⟨n5, en5⟩ : ∃ n5, nOf false (valT root) [⟨false, k, (i : Int)⟩] n = n5 := ⟨_, rfl⟩
        have hn5 : n5 = n := by rw [← en5]; rfl
        rw [en5] at ho5
        have q4 := Aside0.mk (doneOwn w.heap.size w5 HB5.out.size b n5 root5 ho5 none 0 [] (fun W _ _ j hj => by exact absurd hj (Nat.not_lt_zero _)) (fun c hc => by cases hc) (by decide) (by have := HO.out.2; have h9 : (All root5).length ≤ (All root).length + 1 := hl5; show _ + 0 < _; omega) (by have := HI.out.2.2.1; have := HI.out; omega) (by have := HI.out.2.2.2; have := HI.out; omega) true)
        have HL5 : Aside0 ((All root5).length ≤ (All root).length + 1) := ⟨hl5⟩
        clear ho5 hl5 hb5 q3 k0 en5 hin hjm eW4 eG
        go_wp2_with fail
        go_at_call 10
        refine q4.out.mono ?_
        rintro e w6 ⟨rfl, root6, ho6, -, hl6, -, hb6⟩
        have e6 : nOf true (valT root5) [] n5 = n5 := rfl
        rw [e6] at ho6
        have HO6 := Aside0.mk (And.intro ho6 (And.intro (show (All root6).length ≤ i + 1 from by have := HO.out.2; have := HL5.out; have h9 : (All root6).length ≤ (All root5).length + 0 := hl6; omega) (HB5.out.trans hb6)))
        clear ho6 hl6 hb6 q4 e6
        obtain ⟨v6, tb6, hb9, -⟩ := HO6.out.1.base
        have q5 := Aside0.mk (baseVersion w6 b v6 tb6 n5 false hb9)
        clear hb9
        unfold ptr at q5
        have hwr : IntKind.u64.wrap (n + 1) = n + 1 := by rw [IntKind.wrap_u64]; have := HI.out; omega
        subst hn5
        go_wp2_with fail
        go_at_call 11
        refine q5.out.mono ?_
        rintro e w7 ⟨rfl, hw7⟩
        subst hw7
        clear q5
        go_wp2_with fail
        go_roundg (N - i)
        case measure => have := HI.out; omega
        case rel => exact ⟨i + 1, _, root6, rfl, by simp, ⟨by have := HI.out; omega⟩, ⟨HO6.out.1, HO6.out.2.1⟩, ⟨HO6.out.2.2⟩⟩
    · have hin : i = N := by have := HI.out; omega
      subst hin
      go_wp2_with fail
      go_ret
      exact ⟨rfl, HB.out⟩
end Go.Proofs.YtjhgknagmiekeaaGreat.G
