/- radix: RadixForgets, the walk. -/
import Derived.Test.YtkaeglnnahecjaaJi
set_option linter.unusedVariables false
set_option linter.unusedSimpArgs false
namespace Go.Proofs.Ytkaeglnnahecjaa.T
open Go.RowKit Go.Lib Go.Proofs Go.Proofs.YtkaeglnnahecjaaW.PrintWords

theorem wasV_form (tb : Nat) (o : Option Value) : ∃ a b, wasV tb o = .tuple #[ptr tb, a, .bool b] := by cases o <;> exact ⟨_, _, rfl⟩
theorem numV_ne {o : Option Nat} : numV o ≠ none ↔ o ≠ none := by cases o <;> simp [numV]
theorem infoS : (Try.prog.info? 9).map (fun i => (i.zero, i.size, i.bytes)) = some (some (.string ⟨#[]⟩), 1, 16) := by kernel_rfl
def strsV (l : List ByteArray) : List Value := l.map Value.string
theorem strs_of_owns {w : World} {base n : Nat} {v : Value} {l : List ByteArray} (h : w.ownsRow base 9 1 v n (strsV l)) : ∃ A c, v = .slice A l.length c ∧ Strs w A l := by
  have hl : l.length = n := by have := h.1; simpa [strsV] using this
  rcases h.2 with ⟨rfl, h0⟩ | ⟨g, cap, cur, rfl, hb, hg, hnc, hcm, hcs, ht⟩
  · have : l = [] := List.length_eq_zero_iff.1 (by omega)
    subst this
    exact ⟨none, 0, rfl, fun i hi => by simp at hi⟩
  · refine ⟨some ⟨g, 0, none⟩, cap, by rw [hl], fun i hi => ⟨_, rfl, ?_⟩⟩
    rw [Addr.add_lit, Nat.zero_add, blk_cell hg]
    have e := List.getElem?_take_of_lt (l := cur.toList) (show i < n * 1 by omega)
    rw [ht] at e
    refine Eq.trans (Array.getElem?_toList.symm.trans e.symm) ?_
    simp [strsV, List.getElem?_map, List.getElem?_eq_getElem hi]
theorem owns_keepS {w w' : World} {base n : Nat} {v : Value} {ps : List Value} (h : w.ownsRow base 9 1 v n ps) (k : Kept w w') : w'.ownsRow base 9 1 v n ps := by
  refine ⟨h.1, ?_⟩
  rcases h.2 with h0 | ⟨g, cap, cur, rfl, hb, hg, rest⟩
  · exact .inl h0
  · exact .inr ⟨g, cap, cur, rfl, hb, k.at hg, rest⟩
/-- the values of a tree with the first i of the keys put in, with 1 -/
def plusV (rA : Nd) (mine : List ByteArray) (i : Nat) (r : List UInt8) : Option Value := if r ∈ (mine.take i).map L then some (.int .i64 1) else valT rA r
/-- .. and the first i of them taken out again -/
def lessV (rA : Nd) (mine : List ByteArray) (i : Nat) (r : List UInt8) : Option Value := if r ∈ (mine.take i).map L then none else plusV rA mine mine.length r
theorem take_snocI {mine : List ByteArray} {i : Nat} (h : i < mine.length) : mine.take (i + 1) = mine.take i ++ [mine[i]] := by
  rw [List.take_add_one, List.getElem?_eq_getElem h]; rfl
theorem plusV_step {rA : Nd} {mine : List ByteArray} {i : Nat} (h : i < mine.length) (r : List UInt8) : plusV rA mine (i + 1) r = if r = L mine[i] then some (.int .i64 1) else plusV rA mine i r := by
  unfold plusV
  rw [take_snocI h]
  simp only [List.map_append, List.map_cons, List.map_nil, List.mem_append, List.mem_singleton]
  by_cases e : r = L mine[i]
  · rw [if_pos (.inr e), if_pos e]
  · rw [if_neg e]
    by_cases e2 : r ∈ (mine.take i).map L
    · rw [if_pos (.inl e2), if_pos e2]
    · rw [if_neg (fun h => h.elim e2 e), if_neg e2]
theorem lessV_step {rA : Nd} {mine : List ByteArray} {i : Nat} (h : i < mine.length) (r : List UInt8) : lessV rA mine (i + 1) r = if r = L mine[i] then none else lessV rA mine i r := by
  unfold lessV
  rw [take_snocI h]
  simp only [List.map_append, List.map_cons, List.map_nil, List.mem_append, List.mem_singleton]
  by_cases e : r = L mine[i]
  · rw [if_pos (.inr e), if_pos e]
  · rw [if_neg e]
    by_cases e2 : r ∈ (mine.take i).map L
    · rw [if_pos (.inl e2), if_pos e2]
    · rw [if_neg (fun h => h.elim e2 e), if_neg e2]
theorem lessV_end {rA : Nd} {mine : List ByteArray} (h : ∀ k ∈ mine, valT rA (L k) = none) (r : List UInt8) : lessV rA mine mine.length r = valT rA r := by
  unfold lessV plusV
  rw [List.take_length]
  by_cases e : r ∈ mine.map L
  · rw [if_pos e]
    obtain ⟨k, hk, e⟩ := List.mem_map.1 e
    rw [← e, h k hk]
  · rw [if_neg e, if_neg e]
theorem sim_tr {w w' : World} {ta tb : Nat} {a b : Nd} (ha : Tr w ta a) (hb : Tr w' tb b) (h : ∀ r, valT a r = valT b r) : Sim a b ∧ (All a).length = (All b).length := by
  refine ⟨sim_of a b ha.fine.ok ha.fine.br hb.fine.ok hb.fine.br ?_ h, len_same ha.fine.toGood hb.fine.toGood (fun r => by rw [← valT_ne, h, valT_ne])⟩
  rw [empty_of _ ha.fine.top, empty_of _ hb.fine.top]
theorem alikeTr {w : World} {ta tb : Nat} {a b : Nd} (ha : Tr w ta a) (hb : Tr w tb b) (h : ∀ r, valT a r = valT b r) : Calls Try.prog 37 #[nodeV a.b ⟨#[]⟩, nodeV b.b ⟨#[]⟩] w (AlikeOk w) :=
  alikeC (nsz a) a b ⟨#[]⟩ 3999999999999 w (Nat.le_refl _) (sim_tr ha hb h).1 ha.at_.root hb.at_.root ha.fine.ok hb.fine.ok ha.vals ha.fine.fits (by show 0 + _ < _; omega)
set_option maxHeartbeats 8000000 in
set_option maxRecDepth 100000 in
theorem forgets (hal : ∀ w : World, Calls Try.prog 11 #[] w fun e w' => e = .returned (.bool true) ∧ Below w.heap.size w w') (w : World) (A : Option Addr) (c : Nat) (ks : List ByteArray) (A1 : Option Addr) (c1 : Nat) (ss : List ByteArray) (hA : Strs w A ks) (hn : ks.length < 1000000000000) (hks : ∀ k ∈ ks, k.size < 4000000000000) (hA1 : Strs w A1 ss) (hn1 : ss.length < 1000000000000) (hss : ∀ k ∈ ss, k.size < 4000000000000) :
    Calls Try.prog 7 #[.slice A ks.length c, .slice A1 ss.length c1] w fun e w' => e = .returned (.bool true) ∧ Below w.heap.size w w' := by
  have HA := Aside0.mk (And.intro hA hks)
  have HS := Aside0.mk (And.intro hA1 hss)
  have q0 := Aside0.mk (hal w)
  clear hA hks hA1 hss hal
  go_enter Try.func7, Try.ntmps7
  go_wp2_with (go_at_call 11; refine q0.out.mono ?_)
  rintro e w1 ⟨rfl, B1⟩
  have q1 := Aside0.mk (builtC w1 A c ks (HA.out.1.keep (Kept.of B1)) hn HA.out.2)
  have HB1 := Aside0.mk B1
  clear B1 q0
  go_wp2_with (go_at_call 12; refine q1.out.mono ?_)
  rintro e w2 ⟨ta, rA, rfl, hTa, hva, hla, B2⟩
  have HTa := Aside0.mk hTa
  have HVa := Aside0.mk (And.intro hva hla)
  have HB2 := Aside0.mk (belowAt HB1.out B2)
  have q2 := Aside0.mk (newC w2)
  clear hTa hva hla B2 q1 HB1
  unfold ptr
  go_wp2_with (go_at_call 32; refine q2.out.mono ?_)
  rintro e w3 ⟨tb, rB, rfl, hTb, hvb, hlb, B3⟩
  have HTb := Aside0.mk hTb
  have HVb := Aside0.mk (And.intro hvb hlb)
  have HB3 := Aside0.mk (belowAt HB2.out B3)
  have HTa3 := Aside0.mk (HTa.out.keep (Kept.of B3))
  clear hTb hvb hlb B3 q2 HB2 HTa
  obtain ⟨n, en⟩ : ∃ n, ks.length = n := ⟨_, rfl⟩
  have HN := Aside0.mk en
  obtain ⟨n1, en1⟩ : ∃ n1, ss.length = n1 := ⟨_, rfl⟩
  have HN1 := Aside0.mk en1
  rw [en] at hn ⊢
  rw [en1] at hn1 ⊢
  clear en en1
  have ew0 : wrap64 ((n : Int) - 1) = (n : Int) - 1 := by unfold wrap64; omega
  unfold ptr
  go_wp2_with fail
  go_loopg [6, 7] (n + 1) (fun kq v6 v7 W => ∃ (i tb : Nat) (rB : Nd), v6 = .pointer (some ⟨tb, 0, none⟩) ∧ v7 = .int .i64 ((i : Int) - 1) ∧ Aside0 (i + 1 ≤ kq ∧ i ≤ n) ∧ Aside0 (Tr W tb rB ∧ (∀ r, valT rB r = numV (fromI ks n i r)) ∧ (All rB).length + i ≤ n) ∧ Aside0 (Below w3.heap.size w3 W))
  case atStart => exact ⟨n, tb, rB, rfl, rfl, ⟨by omega, by omega⟩, ⟨HTb.out, fun r => by rw [HVb.out.1, fromI_top]; rfl, by rw [HVb.out.2]; simp⟩, ⟨Below.refl _ _⟩⟩
  case round =>
    obtain ⟨i, tb, rB, rfl, rfl, HI, HT, HB⟩ := hrel
    cases i with
    | zero =>
      have HTA := Aside0.mk (HTa3.out.keep (Kept.of HB.out))
      have HTB := HT
      have HBW := Aside0.mk (belowAt HB3.out HB.out)
      clear HT HB HTb HVb HTa3 HB3
      go_wp2_with fail
      obtain ⟨wo, rfl⟩ : ∃ wo : World, wo = wr := ⟨_, rfl⟩
      obtain ⟨i0, hi, hz0, hz1, hz2⟩ := info_parts infoS
      have HII := Aside0.mk (And.intro hi (And.intro hz0 (And.intro hz1 hz2)))
      clear hi hz0 hz1 hz2
      have own0 : (wo.alloc (.cells #[] 9)).ownsRow wo.heap.size 9 1 (.slice (some ⟨wo.heap.size, 0, none⟩) 0 0) 0 (strsV []) := ⟨rfl, .inr ⟨wo.heap.size, 0, #[], rfl, Nat.le_refl _, heap_alloc_new wo _, Nat.le_refl _, Nat.zero_le _, rfl, rfl⟩⟩
      have HO0 := Aside0.mk own0
      clear own0
      go_loopg [10, 65] (n1 + 1) (fun kq v10 v65 W => ∃ (i : Nat) (mine : List ByteArray), v65 = .int .i64 (i : Int) ∧ Aside0 (i + kq = n1 + 1 ∧ i ≤ n1) ∧ Aside0 (W.ownsRow wo.heap.size 9 1 v10 mine.length (strsV mine) ∧ mine.length ≤ i ∧ ∀ k ∈ mine, k.size < 4000000000000 ∧ valT rB (L k) = none) ∧ Aside0 (Below wo.heap.size wo W))
      case atStart => exact ⟨0, [], rfl, ⟨by omega⟩, ⟨HO0.out, Nat.le_refl _, fun k hk => by simp at hk⟩, ⟨(Below.refl _ wo).alloc (Nat.le_refl _) _⟩⟩
      case round =>
        obtain ⟨i, mine, rfl, HI2, HM, HB2⟩ := hrel
        by_cases hlt : i < n1
        · have hi' : i < ss.length := by rw [HN1.out]; exact hlt
          obtain ⟨ad, ea, ka⟩ := (HS.out.1.keep (Kept.of (belowAt HBW.out HB2.out))) i hi'
          obtain ⟨k, ek⟩ : ∃ k, ss[i] = k := ⟨_, rfl⟩
          rw [ek] at ka
          have hk : k.size < 4000000000000 := HS.out.2 k (by rw [← ek]; exact List.getElem_mem _)
          subst ea
          have hltI : (i : Int) < (n1 : Int) := by omega
          have q1 := Aside0.mk (getC wr tb rB (HTB.out.1.keep (Kept.of HB2.out)) k hk)
          clear ek hi'
          cases eo : valT rB (L k) with
          | some v =>
            rw [eo] at q1
            clear eo
            unfold gotV at q1
            unfold ptr at q1
            go_wp2_with (go_at_call 25; refine q1.out.mono ?_)
            rintro e w4 rfl B4
            have HB4 := Aside0.mk B4
            clear B4 q1
            go_wp2_with fail
            go_roundg (n1 - i)
            case measure => have := HI2.out; omega
            case rel => exact ⟨i + 1, mine, by simp, ⟨by have := HI2.out; omega⟩, ⟨owns_keepS HM.out.1 (Kept.of HB4.out), by have := HM.out.2.1; omega, HM.out.2.2⟩, ⟨belowAt HB2.out HB4.out⟩⟩
          | none =>
            have HEO := Aside0.mk eo
            rw [eo] at q1
            clear eo
            unfold gotV at q1
            unfold ptr at q1
            go_wp2_with (go_at_call 25; refine q1.out.mono ?_)
            rintro e w4 rfl B4
            have HB4 := Aside0.mk B4
            have HO4 := Aside0.mk (owns_keepS HM.out.1 (Kept.of B4))
            clear B4 q1
            obtain ⟨hi, hz0, hz1, hz2⟩ := HII.out
            go_wp2_with (at_builtin; refine wpList_append_own _ rfl _ _ 22 rfl wo.heap.size 9 i0 (.string ⟨#[]⟩) 1 16 Try.underlying22 hi hz0 hz1 hz2 rfl (by decide) _ mine.length (strsV mine) rfl (HO4.out.alloc _) ⟨w4.heap.size, 0, none⟩ 1 1 [.string k] rfl ?c1 ?c2 ?c3 ?c4 ?c5 ?c6 ?_)
            case c1 => rfl
            case c2 =>
              intro j u hj
              match j, hj with
              | 0, hj => simp at hj; subst hj; rw [show (⟨w4.heap.size, 0, none⟩ : Addr).add 0 = ⟨w4.heap.size, 0, none⟩ from rfl, blk_cell (heap_alloc_new w4 _)]; rfl
            case c3 => simp [Value.oneCell']
            case c4 => have := HM.out.2.1; unfold maxLen; omega
            case c5 => have := HM.out.2.1; omega
            case c6 => have := HB2.out.size; have := HB4.out.size; simp only [World.size_alloc]; omega
            intro v' w5 ho hg _
            have H5 := Aside0.mk (And.intro ho hg)
            clear ho hg hi hz0 hz1 hz2
            go_wp2_with fail
            go_roundg (n1 - i)
            case measure => have := HI2.out; omega
            case rel =>
              have hlen : (mine ++ [k]).length = mine.length + 1 := by simp
              refine ⟨i + 1, mine ++ [k], by simp, ⟨by have := HI2.out; omega⟩, ⟨?_, by have := HM.out.2.1; omega, fun x hx => ?_⟩, ⟨?_⟩⟩
              · rw [hlen]
                have : strsV (mine ++ [k]) = strsV mine ++ [.string k] := by simp [strsV]
                rw [this]
                exact H5.out.1
              · rcases List.mem_append.1 hx with h | h
                · exact HM.out.2.2 x h
                · rw [List.mem_singleton] at h; subst h; exact ⟨hk, HEO.out⟩
              · have hs := HB2.out.size
                have hs4 := HB4.out.size
                exact (belowAt HB2.out HB4.out).trans (((Below.refl wo.heap.size w4).alloc (by omega) _).trans (below_grown H5.out.2 (by simp only [World.size_alloc]; omega) (fun g hg => (HM.out.1.lt g hg).1)))
        · have hin : i = n1 := by have := HI2.out; omega
          subst hin
          obtain ⟨Am, cm, rfl, hSm⟩ := strs_of_owns HM.out.1
          obtain ⟨wp, rfl⟩ : ∃ wp : World, wp = wr := ⟨_, rfl⟩
          have HTA2 := Aside0.mk (HTA.out.keep (Kept.of HB2.out))
          have HTB2 := Aside0.mk (HTB.out.1.keep (Kept.of HB2.out))
          have HBP := Aside0.mk (belowAt HBW.out HB2.out)
          have HVAB : Aside0 (∀ r, valT rA r = valT rB r) := ⟨fun r => by rw [HVa.out.1, HN.out, HTB.out.2.1, fromI_zero]⟩
          have HMV : Aside0 ((∀ k ∈ mine, k.size < 4000000000000) ∧ (∀ k ∈ mine, valT rA (L k) = none) ∧ mine.length ≤ i ∧ (All rA).length ≤ n) := ⟨⟨fun k hk => (HM.out.2.2 k hk).1, fun k hk => by rw [HVAB.out]; exact (HM.out.2.2 k hk).2, HM.out.2.1, by rw [← HN.out]; exact HVa.out.2⟩⟩
          have HSM := Aside0.mk hSm
          obtain ⟨m, em⟩ : ∃ m, mine.length = m := ⟨_, rfl⟩
          have HME := Aside0.mk em
          have hm1 : m ≤ i := by rw [← em]; exact HM.out.2.1
          rw [em]
          clear hSm em HM HII HO0 HS HI2 HB2 HTA HBW
          go_wp2_with fail
          go_loopg [15, 85] (m + 1) (fun kq v15 v85 W => ∃ (j tc : Nat) (rC : Nd), v15 = .pointer (some ⟨tc, 0, none⟩) ∧ v85 = .int .i64 (j : Int) ∧ Aside0 (j + kq = m + 1 ∧ j ≤ m) ∧ Aside0 (Tr W tc rC ∧ (∀ r, valT rC r = plusV rA mine j r) ∧ (All rC).length ≤ n + j) ∧ Aside0 (Below wp.heap.size wp W))
          case atStart => exact ⟨0, ta, rA, rfl, rfl, ⟨by omega⟩, ⟨HTA2.out, fun r => by unfold plusV; simp, by have := HMV.out.2.2.2; omega⟩, ⟨Below.refl _ _⟩⟩
          case round =>
            obtain ⟨j, tc, rC, rfl, rfl, HI3, HTC, HB3⟩ := hrel
            by_cases hlt : j < m
            · have hj' : j < mine.length := by rw [HME.out]; exact hlt
              obtain ⟨ad, ea, ka⟩ := (HSM.out.keep (Kept.of HB3.out)) j hj'
              obtain ⟨k, ek⟩ : ∃ k, mine[j] = k := ⟨_, rfl⟩
              rw [ek] at ka
              have hk : k.size < 4000000000000 := HMV.out.1 k (by rw [← ek]; exact List.getElem_mem _)
              subst ea
              have hltI : (j : Int) < (m : Int) := by omega
              have q1 := Aside0.mk (insC wr tc rC HTC.out.1 k 1 hk (by have := HTC.out.2.2; omega))
              have HST : Aside0 (∀ r, plusV rA mine (j + 1) r = if r = L k then some (.int .i64 1) else plusV rA mine j r) := ⟨fun r => by rw [plusV_step hj', ek]⟩
              have HWF := Aside0.mk (fun tb' => wasV_form tb' (valT rC (L k)))
              clear ek hj'
              unfold ptr at q1
              go_wp2_with (go_at_call 36; refine q1.out.mono ?_)
              rintro e w4 ⟨tc2, rC2, rfl, hT, hv, hl, B4⟩
              obtain ⟨x, y, exy⟩ := HWF.out tc2
              rw [exy]
              have H4 := Aside0.mk (And.intro hT (And.intro hv (And.intro hl B4)))
              clear hT hv hl B4 q1 exy
              unfold ptr
              go_wp2_with fail
              go_roundg (m - j)
              case measure => have := HI3.out; omega
              case rel =>
                refine ⟨j + 1, tc2, rC2, rfl, by simp, ⟨by have := HI3.out; omega⟩, ⟨H4.out.1, fun r => ?_, by have := H4.out.2.2.1; have := HTC.out.2.2; omega⟩, ⟨belowAt HB3.out H4.out.2.2.2⟩⟩
                rw [H4.out.2.1, HST.out, HTC.out.2.1]
            · have hjm : j = m := by have := HI3.out; omega
              subst hjm
              obtain ⟨wq, rfl⟩ : ∃ wq : World, wq = wr := ⟨_, rfl⟩
              have HTA3 := Aside0.mk (HTA2.out.keep (Kept.of HB3.out))
              have HTB3 := Aside0.mk (HTB2.out.keep (Kept.of HB3.out))
              have HBQ := Aside0.mk (belowAt HBP.out HB3.out)
              have HSM3 := Aside0.mk (HSM.out.keep (Kept.of HB3.out))
              clear HI3 HB3 HTA2 HTB2 HBP HSM
              go_wp2_with fail
              go_loopg [15, 101] (j + 1) (fun kq v15 v101 W => ∃ (g tc : Nat) (rC : Nd), v15 = .pointer (some ⟨tc, 0, none⟩) ∧ v101 = .int .i64 (g : Int) ∧ Aside0 (g + kq = j + 1 ∧ g ≤ j) ∧ Aside0 (Tr W tc rC ∧ (∀ r, valT rC r = lessV rA mine g r) ∧ (All rC).length ≤ n + j) ∧ Aside0 (Below wq.heap.size wq W))
              case atStart => exact ⟨0, tc, rC, rfl, rfl, ⟨by omega⟩, ⟨HTC.out.1, fun r => by rw [HTC.out.2.1]; unfold lessV; rw [HME.out]; simp, HTC.out.2.2⟩, ⟨Below.refl _ _⟩⟩
              case round =>
                obtain ⟨g, tc, rC, rfl, rfl, HI4, HTC, HB4⟩ := hrel
                by_cases hlt : g < j
                · have hj' : g < mine.length := by rw [HME.out]; exact hlt
                  obtain ⟨ad, ea, ka⟩ := (HSM3.out.keep (Kept.of HB4.out)) g hj'
                  obtain ⟨k, ek⟩ : ∃ k, mine[g] = k := ⟨_, rfl⟩
                  rw [ek] at ka
                  have hk : k.size < 4000000000000 := HMV.out.1 k (by rw [← ek]; exact List.getElem_mem _)
                  subst ea
                  have hltI : (g : Int) < (j : Int) := by omega
                  have q1 := Aside0.mk (delC wr tc rC HTC.out.1 k hk (by have := HTC.out.2.2; omega))
                  have HST : Aside0 (∀ r, lessV rA mine (g + 1) r = if r = L k then none else lessV rA mine g r) := ⟨fun r => by rw [lessV_step hj', ek]⟩
                  have HWF := Aside0.mk (fun tb' => wasV_form tb' (valT rC (L k)))
                  clear ek hj'
                  unfold ptr at q1
                  go_wp2_with (go_at_call 27; refine q1.out.mono ?_)
                  rintro e w4 ⟨tc2, rC2, rfl, hT, hv, hl, B4⟩
                  obtain ⟨x, y, exy⟩ := HWF.out tc2
                  rw [exy]
                  have H4 := Aside0.mk (And.intro hT (And.intro hv (And.intro hl B4)))
                  clear hT hv hl B4 q1 exy
                  unfold ptr
                  go_wp2_with fail
                  go_roundg (j - g)
                  case measure => have := HI4.out; omega
                  case rel =>
                    refine ⟨g + 1, tc2, rC2, rfl, by simp, ⟨by have := HI4.out; omega⟩, ⟨H4.out.1, fun r => ?_, by have := H4.out.2.2.1; have := HTC.out.2.2; omega⟩, ⟨belowAt HB4.out H4.out.2.2.2⟩⟩
                    rw [H4.out.2.1, HST.out, HTC.out.2.1]
                · have hgj : g = j := by have := HI4.out; omega
                  subst hgj
                  have hac : ∀ r, valT rA r = valT rC r := fun r => by
                    rw [HTC.out.2.1, ← HME.out, lessV_end HMV.out.2.1]
                  have KA := Aside0.mk (HTA3.out.keep (Kept.of HB4.out))
                  have KB := Aside0.mk (HTB3.out.keep (Kept.of HB4.out))
                  have KC := Aside0.mk HTC.out.1
                  have HAC := Aside0.mk hac
                  have ea : (All rA).length = (All rB).length := (sim_tr KA.out KB.out HVAB.out).2
                  have ec : (All rA).length = (All rC).length := (sim_tr KA.out KC.out hac).2
                  have HEA := Aside0.mk (And.intro ea ec)
                  have q1 := Aside0.mk (fun W (h : Below wr.heap.size wr W) => rootC W ta rA _ (KA.out.keep (Kept.of h)).at_)
                  have q2 := Aside0.mk (fun W (h : Below wr.heap.size wr W) => rootC W tb rB _ (KB.out.keep (Kept.of h)).at_)
                  have q3 := Aside0.mk (fun W (h : Below wr.heap.size wr W) => alikeTr (KA.out.keep (Kept.of h)) (KB.out.keep (Kept.of h)) HVAB.out)
                  have q4 := Aside0.mk (fun W (h : Below wr.heap.size wr W) => rootC W tc rC _ (KC.out.keep (Kept.of h)).at_)
                  have q5 := Aside0.mk (fun W (h : Below wr.heap.size wr W) => alikeTr (KA.out.keep (Kept.of h)) (KC.out.keep (Kept.of h)) hac)
                  have q6 := Aside0.mk (fun W (h : Below wr.heap.size wr W) => lenC W ta rA (KA.out.keep (Kept.of h)))
                  have q7 := Aside0.mk (fun W (h : Below wr.heap.size wr W) => lenC W tb rB (KB.out.keep (Kept.of h)))
                  have q8 := Aside0.mk (fun W (h : Below wr.heap.size wr W) => lenC W tc rC (KC.out.keep (Kept.of h)))
                  rw [← ea] at q7
                  rw [← ec] at q8
                  obtain ⟨len, elen⟩ : ∃ len, (All rA).length = len := ⟨_, rfl⟩
                  rw [elen] at q6 q7 q8
                  clear ea ec hac elen
                  unfold nodeV ptr at q1 q2 q3 q4 q5
                  unfold ptr at q6 q7 q8
                  have p1 := Aside0.mk (q1.out wr (Below.refl _ _))
                  go_wp2_with (go_at_call 30; refine p1.out.mono ?_)
                  rintro e x1 ⟨rfl, B1⟩
                  have D1 := Aside0.mk B1
                  have p2 := Aside0.mk (q2.out x1 D1.out)
                  clear B1 p1
                  go_wp2_with (go_at_call 30; refine p2.out.mono ?_)
                  rintro e x2 ⟨rfl, B2⟩
                  have D2 := Aside0.mk (belowAt D1.out B2)
                  have p3 := Aside0.mk (q3.out x2 D2.out)
                  clear B2 p2
                  go_wp2_with (go_at_call 37; refine p3.out.mono ?_)
                  rintro e x3 ⟨rfl, B3⟩
                  have D3 := Aside0.mk (belowAt D2.out B3)
                  have p4 := Aside0.mk (q1.out x3 D3.out)
                  clear B3 p3
                  go_wp2_with (go_at_call 30; refine p4.out.mono ?_)
                  rintro e x4 ⟨rfl, B4⟩
                  have D4 := Aside0.mk (belowAt D3.out B4)
                  have p5 := Aside0.mk (q4.out x4 D4.out)
                  clear B4 p4
                  go_wp2_with (go_at_call 30; refine p5.out.mono ?_)
                  rintro e x5 ⟨rfl, B5⟩
                  have D5 := Aside0.mk (belowAt D4.out B5)
                  have p6 := Aside0.mk (q5.out x5 D5.out)
                  clear B5 p5
                  go_wp2_with (go_at_call 37; refine p6.out.mono ?_)
                  rintro e x6 ⟨rfl, B6⟩
                  have D6 := Aside0.mk (belowAt D5.out B6)
                  have r1 := Aside0.mk (q6.out x6 D6.out)
                  have r2 := Aside0.mk (q7.out x6 D6.out)
                  have r3 := Aside0.mk (q8.out x6 D6.out)
                  clear B6 p6 q1 q2 q3 q4 q5 q6 q7 q8
                  go_wp2_with (go_at_call 24; refine r1.out.mono ?_; rintro e y1 ⟨rfl, rfl⟩)
                  go_wp2_with (go_at_call 24; refine r2.out.mono ?_; rintro e y1 ⟨rfl, rfl⟩)
                  go_wp2_with (go_at_call 24; refine r1.out.mono ?_; rintro e y1 ⟨rfl, rfl⟩)
                  go_wp2_with (go_at_call 24; refine r3.out.mono ?_; rintro e y1 ⟨rfl, rfl⟩)
                  go_ret
                  exact ⟨rfl, belowAt HBQ.out (belowAt HB4.out D6.out)⟩
    | succ i =>
      have ei : ((i + 1 : Nat) : Int) - 1 = (i : Int) := by omega
      rw [ei]
      have hi' : i < ks.length := by rw [HN.out]; have := HI.out.2; omega
      have hin : i < n := by have := HI.out.2; omega
      obtain ⟨ad, ea, ka⟩ := (HA.out.1.keep (Kept.of (belowAt HB3.out HB.out))) i hi'
      obtain ⟨k, ek⟩ : ∃ k, ks[i] = k := ⟨_, rfl⟩
      rw [ek] at ka
      have hk : k.size < 4000000000000 := HA.out.2 k (by rw [← ek]; exact List.getElem_mem _)
      have HKE := Aside0.mk (show ks.getD i ⟨#[]⟩ = k by rw [getD_get hi', ek])
      subst ea
      have ew2 : wrap64 ((i : Int) - 1) = (i : Int) - 1 := by unfold wrap64; omega
      have hinI : (i : Int) < (n : Int) := by omega
      have q1 := Aside0.mk (getC wr tb rB HT.out.1 k hk)
      clear ek hi'
      cases eo : fromI ks n (i + 1) (L k) with
      | some j =>
        have HEO := Aside0.mk eo
        rw [HT.out.2.1, eo] at q1
        clear eo
        unfold numV gotV ptr at q1
        go_wp2_with (go_at_call 25; refine q1.out.mono ?_)
        rintro e w4 ⟨rfl, B4⟩
        have HB4 := Aside0.mk B4
        clear B4 q1
        go_wp2_with fail
        go_roundg (i + 1)
        case measure => have := HI.out; omega
        case rel =>
          refine ⟨i, tb, rB, rfl, rfl, ⟨by omega, by omega⟩, ⟨HT.out.1.keep (Kept.of HB4.out), fun r => ?_, by have := HT.out.2.2; omega⟩, ⟨belowAt HB.out HB4.out⟩⟩
          rw [HT.out.2.1, ← fromI_there hin (by rw [HKE.out, HEO.out]; simp)]
      | none =>
        have HEO := Aside0.mk eo
        rw [HT.out.2.1, eo] at q1
        have hv0 := HT.out.2.1 (L k)
        rw [eo] at hv0
        have q3 := Aside0.mk (fun W (h : Kept wr W) => insC W tb rB (HT.out.1.keep h) k (i : Int) hk (by have := HT.out.2.2; omega))
        rw [hv0] at q3
        clear eo hv0
        unfold numV gotV ptr at q1
        unfold numV wasV ptr at q3
        go_wp2_with (go_at_call 25; refine q1.out.mono ?_)
        rintro e w4 ⟨rfl, B4⟩
        have k4 := (Kept.of B4).cell ka
        have q4 := Aside0.mk (q3.out w4 (Kept.of B4))
        have HB4 := Aside0.mk B4
        clear B4 q1 q3 ka
        go_wp2_with (go_at_call 36; refine q4.out.mono ?_)
        rintro e w5 ⟨tb2, rB2, rfl, hT, hv, hl, B5⟩
        have H5 := Aside0.mk (And.intro hT (And.intro hv (And.intro hl B5)))
        clear hT hv hl B5 q4
        go_wp2_with fail
        go_roundg (i + 1)
        case measure => have := HI.out; omega
        case rel =>
          refine ⟨i, tb2, rB2, rfl, rfl, ⟨by omega, by omega⟩, ⟨H5.out.1, fun r => ?_, by have := HT.out.2.2; have := H5.out.2.2.1; omega⟩, ⟨belowAt (belowAt HB.out HB4.out) H5.out.2.2.2⟩⟩
          rw [H5.out.2.1, HT.out.2.1, fromI_new hin (by rw [HKE.out, HEO.out]), HKE.out]
          split <;> rfl
end Go.Proofs.Ytkaeglnnahecjaa.T
