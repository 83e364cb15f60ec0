/- joined: V2OU V3OU V4OU -/
import Derived.Test.YtjhgknagmiekeaaJD9
import Derived.Deep.RegionHeld3
set_option linter.unusedVariables false
set_option linter.unusedSimpArgs false
namespace Go.Proofs.Ytjhgknagmiekeaa.VOU
open Go.RowKit Go.Lib Go.Proofs Go.Proofs.YtjhgknagmiekeaaW.PrintWords Go.Proofs.Ytjhgknagmiekeaa.T Go.Proofs.Ytjhgknagmiekeaa.V
attribute [local go_sem] Oper.semAt_some
def Post (n₁ : Nat) (M : Nat → Prop) (J Jx : List (ByteArray × Int) → World → Prop) (pre xs : List (ByteArray × Int)) (W : World) (e : Ending) (W' : World) : Prop :=
  (e = .returned (.bool true) ∧ J (pre ++ xs) W' ∧ KpM n₁ M W W') ∨ (e = .returned (.bool false) ∧ ∃ q, q <+: xs ∧ Jx (pre ++ q) W')
set_option maxRecDepth 100000 in
set_option maxHeartbeats 4000000 in
theorem skip_in (bp : Nat) (l n₁ : Nat) (M : Nat → Prop) (J Jx : List (ByteArray × Int) → World → Prop) (hJ : Abd J) (wI : World) (sk kp : ByteArray → Bool)
    (hsk : ∀ q W, Stnd wI n₁ M W → Calls Try.prog 72 #[.string q, .pointer (some ⟨bp, 0, none⟩)] W fun e W' => e = .returned (.bool (sk q)) ∧ Below W.heap.size W W') (m : Nat) (n : Nd) (p : ByteArray) (pre : List (ByteArray × Int)) (W : World)
    (hst : Stnd wI n₁ M W) (hJ0 : J pre W) (hs : sk p = true) :
    CallsIn Fence.wide m Try.prog 118 #[nodeV n.b p, .func (.func 72) #[] #[.pointer (some ⟨bp, 0, none⟩)], .func (.func 74) #[] #[.pointer (some ⟨bp, 0, none⟩)], .func (.yield l) #[] #[]] W (Post n₁ M J Jx pre (ovr sk kp p n) W) := by
  have hdd : ∀ k : Nat, (Fence.wide.depth.isSome = true → 1 ≤ k) := fun k h => by cases h
  have HB0 := Aside0.mk ((Below.refl W.heap.size W).alloc (Nat.le_refl _) (.cells #[.pointer (some ⟨n.b, 0, none⟩), .string p] 60))
  have q1 := Aside0.mk (fun W1 => pathC W1 n.b p)
  have HK := Aside0.mk (fun W1 (h : Below W.heap.size W W1) => hsk p W1 (hst.kp (KpM.of h)))
  rw [hs] at HK
  have e0 : ovr sk kp p n = [] := by rw [ovr_eq, hs]; rfl
  rw [e0]
  have HJ := Aside0.mk (And.intro hJ hJ0)
  clear hJ hst hJ0 hs e0 hsk
  unfold nodeV ptr at q1 ⊢
  refine callsIn_of_wp Try.func118 rfl trivial ?_ rfl
  simp only [Try.ntmps118, List.size_toArray, List.length_cons, List.length_nil, Nat.reduceAdd, Nat.reduceSub, Array.replicate_succ, Array.replicate_zero, List.push_toArray, List.append_toArray, List.nil_append, List.cons_append]
  gi_wp2_with (refine ⟨trivial, hdd _, ?_⟩; gi_at_call 94; refine (callsIn_wide.2 (q1.out _)).mono ?_)
  rintro e W1 ⟨rfl, B1⟩
  have HB1 := Aside0.mk (belowAt HB0.out B1)
  have q2 := Aside0.mk (HK.out W1 HB1.out)
  clear B1 q1 HK
  gi_wp2_with (refine ⟨trivial, hdd _, ?_⟩; gi_at_call 72; refine (callsIn_wide.2 q2.out).mono ?_)
  rintro e W2 ⟨rfl, B2⟩
  have HB2 := Aside0.mk (belowAt HB1.out B2)
  clear B2 q2
  gi_wp2
  go_ret
  exact .inl ⟨rfl, by rw [List.append_nil]; exact abide HJ.out.1 HJ.out.2 HB2.out, KpM.of HB2.out⟩
end Go.Proofs.Ytjhgknagmiekeaa.VOU
set_option linter.unusedVariables false
set_option linter.unusedSimpArgs false
namespace Go.Proofs.Ytjhgknagmiekeaa.VOU
open Go.RowKit Go.Lib Go.Proofs Go.Proofs.Ytjhgknagmiekeaa.T Go.Proofs.Ytjhgknagmiekeaa.V
open Go.Proofs.YtjhgknagmiekeaaW.PrintWords hiding blk_cell
attribute [local go_sem] Oper.semAt_some
theorem skip94 {K : Prop} (h : K) : Fence.wide.fn 94 ∧ K := ⟨trivial, h⟩
theorem ok_pre {OK : List (ByteArray × Int) → Prop} (hcl : ∀ a b, OK (a ++ b) → OK a) {a b : List (ByteArray × Int)} (h : OK b) (hp : a <+: b) : OK a := by
  obtain ⟨t, rfl⟩ := hp
  exact hcl _ _ h
theorem rowForm {w : World} {base n : Nat} {v : Value} {ps : List Value} (h : w.ownsRow base 60 2 v n ps) : ∃ A c, v = .slice A n c ∧ True := by
  rcases h.2 with ⟨rfl, rfl⟩ | ⟨g, cap, cur, rfl, _⟩
  · exact ⟨none, 0, rfl, trivial⟩
  · exact ⟨_, _, rfl, trivial⟩
theorem ownsNode {w : World} {base n : Nat} {A : Option Addr} {c : Nat} {ps : List Value} (h : w.ownsRow base 60 2 (.slice A n c) n ps) (hn : 0 < n) : ∃ g cap cur, (A = some ⟨g, 0, none⟩ ∧ c = cap) ∧ base ≤ g ∧ w.heap[g]? = some (.cells cur 60 (0, 0)) ∧ ∀ j, j < n * 2 → cur[j]? = ps[j]? := by
  rcases h.2 with ⟨_, h0⟩ | ⟨g, cap, cur, e, hb, hg, hnc, hcm, hcs, ht⟩
  · omega
  · injection e with e1 _ e3
    refine ⟨g, cap, cur, ⟨e1, e3⟩, hb, hg, fun j hj => ?_⟩
    have e := List.getElem?_take_of_lt (l := cur.toList) hj
    rw [ht] at e
    rw [← Array.getElem?_toList]
    exact e.symm
theorem ownsRow_kp {w w' : World} {n₁ : Nat} {M : Nat → Prop} {base n : Nat} {v : Value} {ps : List Value} (h : w.ownsRow base 60 2 v n ps) (k : KpM n₁ M w w') : w'.ownsRow base 60 2 v n ps := by
  refine ⟨h.1, ?_⟩
  rcases h.2 with h0 | ⟨g, cap, cur, rfl, hb, hg, rest⟩
  · exact .inl h0
  · exact .inr ⟨g, cap, cur, rfl, hb, k.node g cur _ hg, rest⟩
set_option maxRecDepth 100000 in
set_option maxHeartbeats 8000000 in
theorem deep_in (bp : Nat) (l n₁ : Nat) (OK : List (ByteArray × Int) → Prop) (hcl : ∀ a b, OK (a ++ b) → OK a) (M : Nat → Prop) (J Jx : List (ByteArray × Int) → World → Prop) (hJ : Abd J)
    (hY : ∀ m pre (x : ByteArray × Int) W, J pre W → OK (pre ++ [x]) → YieldAt Fence.wide m Try.prog l #[.string x.1, .int .i64 x.2] W fun e W' => (e = .returned (.bool true) ∧ J (pre ++ [x]) W' ∧ KpM n₁ M W W') ∨ (e = .returned (.bool false) ∧ Jx (pre ++ [x]) W'))
    (wI wB : World) (hkB : Kept wB wI) (hnB : wB.heap.size ≤ n₁) (hM : ∀ k, k < wB.heap.size → ¬ M k) (sk kp : ByteArray → Bool)
    (hsk : ∀ q W, Stnd wI n₁ M W → Calls Try.prog 72 #[.string q, .pointer (some ⟨bp, 0, none⟩)] W fun e W' => e = .returned (.bool (sk q)) ∧ Below W.heap.size W W')
    (hkp : ∀ q W, Stnd wI n₁ M W → Calls Try.prog 74 #[.string q, .pointer (some ⟨bp, 0, none⟩)] W fun e W' => e = .returned (.bool (kp q)) ∧ Below W.heap.size W W') (m : Nat) (n : Nd) (p : ByteArray) (pre : List (ByteArray × Int)) (W : World)
    (hn : NdAt wB n) (ho : Ok n) (hv : ∀ l, n.leaf = some l → ∃ v, l.val = .int .i64 v) (hp : ∀ k ∈ n.kids, p.size + k.label.size < 9000000000000000000)
    (hst : Stnd wI n₁ M W) (hnW : n₁ ≤ W.heap.size) (hJ0 : J pre W) (hN : OK (pre ++ ovr sk kp p n)) (hs : sk p = false)
    (IH : ∀ i (hi : i < n.kids.length) pre' W', Stnd wI n₁ M W' → n₁ ≤ W'.heap.size → J pre' W' → OK (pre' ++ ovr sk kp (p ++ n.kids[i].label) n.kids[i]) →
      CallsIn Fence.wide (m - 1) Try.prog 118 #[nodeV n.kids[i].b (p ++ n.kids[i].label), .func (.func 72) #[] #[.pointer (some ⟨bp, 0, none⟩)], .func (.func 74) #[] #[.pointer (some ⟨bp, 0, none⟩)], .func (.yield l) #[] #[]] W' (Post n₁ M J Jx pre' (ovr sk kp (p ++ n.kids[i].label) n.kids[i]) W')) :
    CallsIn Fence.wide m Try.prog 118 #[nodeV n.b p, .func (.func 72) #[] #[.pointer (some ⟨bp, 0, none⟩)], .func (.func 74) #[] #[.pointer (some ⟨bp, 0, none⟩)], .func (.yield l) #[] #[]] W (Post n₁ M J Jx pre (ovr sk kp p n) W) := by
  have hdd : ∀ k : Nat, (Fence.wide.depth.isSome = true → 1 ≤ k) := fun k h => by cases h
  have HB0 := Aside0.mk ((Below.refl W.heap.size W).alloc (Nat.le_refl _) (.cells #[.pointer (some ⟨n.b, 0, none⟩), .string p] 60))
  have hx0 := heap_alloc_new W (.cells #[.pointer (some ⟨n.b, 0, none⟩), .string p] 60)
  have q1 := Aside0.mk (fun W1 => pathC W1 n.b p)
  have qs := Aside0.mk (fun W1 (h : Stnd wI n₁ M W1) => hsk p W1 h)
  rw [hs] at qs
  have qp := Aside0.mk (fun W1 (h : Stnd wI n₁ M W1) => hkp p W1 h)
  have HkB := Aside0.mk (And.intro hkB (And.intro hnB hM))
  have HN := Aside0.mk (And.intro hn (And.intro ho (And.intro hp hv)))
  have HS0 := Aside0.mk hst
  have HnW := Aside0.mk hnW
  have HJa := Aside0.mk hJ
  have HJ0 := Aside0.mk hJ0
  have HY := Aside0.mk hY
  have HNN := Aside0.mk hN
  have HCL := Aside0.mk hcl
  clear hcl
  have HSk := Aside0.mk hs
  have HIH := Aside0.mk IH
  have hfew := ho.few
  obtain ⟨len, elen⟩ : ∃ len, n.kids.length = len := ⟨_, rfl⟩
  have HLen := Aside0.mk elen
  have hl256 : len ≤ 256 := by omega
  have HX0 := Aside0.mk hx0
  have HStd := Aside0.mk (fun W1 (h : Below W.heap.size W W1) => hst.kp (KpM.of h))
  have hbox : ∀ W1, Below (W.alloc (.cells #[.pointer (some ⟨n.b, 0, none⟩), .string p] 60)).heap.size (W.alloc (.cells #[.pointer (some ⟨n.b, 0, none⟩), .string p] 60)) W1 → W1.heap[W.heap.size]? = some (.cells #[.pointer (some ⟨n.b, 0, none⟩), .string p] 60 (0, 0)) := fun W1 h => (Kept.of h).at hx0
  have HBox := Aside0.mk hbox
  clear hkB hnB hM hn ho hp hv hst hnW hJ hJ0 hY hN hs IH hfew elen hx0 hbox hsk hkp
  unfold nodeV ptr at q1 ⊢
  refine callsIn_of_wp Try.func118 rfl trivial ?_ rfl
  simp only [Try.ntmps118, List.size_toArray, List.length_cons, List.length_nil, Nat.reduceAdd, Nat.reduceSub, Array.replicate_succ, Array.replicate_zero, List.push_toArray, List.append_toArray, List.nil_append, List.cons_append]
  gi_wp2_with (refine ⟨trivial, hdd _, ?_⟩; gi_at_call 94; refine (callsIn_wide.2 (q1.out _)).mono ?_)
  rintro e W1 ⟨rfl, B1⟩
  have HA1 := Aside0.mk B1
  have q2 := Aside0.mk (qs.out W1 (HStd.out W1 (belowAt HB0.out B1)))
  clear B1 qs
  gi_wp2_with (refine ⟨trivial, hdd _, ?_⟩; gi_at_call 72; refine (callsIn_wide.2 q2.out).mono ?_)
  rintro e W2 ⟨rfl, B2⟩
  have HA2 := Aside0.mk (belowAt HA1.out B2)
  have hb2 := HBox.out W2 HA2.out
  have b20 : W2.cell? ⟨W.heap.size, 0, none⟩ = some (.pointer (some ⟨n.b, 0, none⟩)) := by rw [blk_cell hb2]; rfl
  have b21 : W2.cell? ⟨W.heap.size, 1, none⟩ = some (.string p) := by rw [blk_cell hb2]; rfl
  have HS2 := Aside0.mk (HStd.out W2 (belowAt HB0.out HA2.out))
  have q3 := Aside0.mk (valueC W2 n p (NdAt.keep (HS2.out.kept HkB.out.1 HkB.out.2.1 HkB.out.2.2) n HN.out.1))
  clear B2 q2 hb2 HA1
  cases hlf : n.leaf with
  | none =>
    rw [hlf] at q3
    have HLf := Aside0.mk hlf
    unfold lookV nodeV ptr at q3
    clear hlf
    gi_wp2_with (refine ⟨trivial, hdd _, ?_⟩; gi_at_call 93; refine (callsIn_wide.2 q3.out).mono ?_)
    rintro e W3 ⟨rfl, B3⟩
    have HA3 := Aside0.mk (belowAt HA2.out B3)
    have hb3 := HBox.out W3 HA3.out
    have b30 : W3.cell? ⟨W.heap.size, 0, none⟩ = some (.pointer (some ⟨n.b, 0, none⟩)) := by rw [blk_cell hb3]; rfl
    have b31 : W3.cell? ⟨W.heap.size, 1, none⟩ = some (.string p) := by rw [blk_cell hb3]; rfl
    clear B3 q3 hb3 b20 b21
    gi_wp2
    repeat (first | (refine ⟨fun _ h => (by cases h), ?_⟩; gi_wp2) | ((with_reducible refine skip94 ?_); gi_wp2))
    have HSt := Aside0.mk (HStd.out W3 (belowAt HB0.out HA3.out))
    have HKp := Aside0.mk (KpM.of (n₁ := n₁) (M := M) (belowAt HB0.out HA3.out))
    have HJc : Aside0 (J (pre ++ ownE kp p n.leaf) W3) := ⟨by rw [HLf.out]; show J (pre ++ []) W3; rw [List.append_nil]; exact abide HJa.out HJ0.out (belowAt HB0.out HA3.out)⟩
    have HK := Aside0.mk (HSt.out.kept HkB.out.1 HkB.out.2.1 HkB.out.2.2)
    have qk := Aside0.mk (kidsO W3 n p (NdAt.keep HK.out n HN.out.1) HN.out.2.1 HN.out.2.2.1)
    unfold nodeV ptr at qk
    gi_wp2_with (refine ⟨trivial, hdd _, ?_⟩; gi_at_call 95; refine (callsIn_wide.2 qk.out).mono ?_)
    rintro e Wd ⟨v, rfl, ho, Bd⟩
    obtain ⟨A, c, ev, hrow⟩ := rowForm ho
    rw [HLen.out] at ho ev
    subst ev
    have HRow := Aside0.mk ho
    have HSd := Aside0.mk (HSt.out.kp (KpM.of Bd))
    have HKd := Aside0.mk (HKp.out.trans (KpM.of Bd))
    have HJd := Aside0.mk (abide HJa.out HJc.out Bd)
    have HWd := Aside0.mk (Nat.le_trans HnW.out (HKp.out.trans (KpM.of Bd)).size)
    clear ho hrow Bd qk HK HSt HKp HJc
    gi_wp2
    gi_loopw [12, 40] (fun v12 v40 wr => ∃ j : Nat, v40 = .int .i64 (j : Int) ∧ Aside0 (j ≤ len) ∧ Aside0 (J (pre ++ (ownE kp p n.leaf ++ ovrs sk kp p (n.kids.take j))) wr) ∧ Aside0 (Stnd wI n₁ M wr) ∧ Aside0 (KpM n₁ M W wr) ∧ Aside0 (wr.ownsRow (W3.heap.size + 1) 60 2 (.slice A len c) len (flatK p n.kids)))
      (fun v12 v40 wr => len - (RowKit.intOf v40).toNat)
    case atStart => exact ⟨0, rfl, ⟨Nat.zero_le _⟩, ⟨by simpa [ovrs] using HJd.out⟩, HSd, HKd, HRow⟩
    case round =>
      obtain ⟨j, rfl, HI, HJr, HSr, HKr, HRr⟩ := hrel
      by_cases hlt : j < len
      · have hj' : j < n.kids.length := by rw [HLen.out]; exact hlt
        obtain ⟨g, cap, cur, eg, hgb, hgg, hgc⟩ := ownsNode HRr.out (by omega)
        obtain ⟨rfl, rfl⟩ := eg
        have hf := flatK_get p n.kids j hj'
        have hn2 : j * 2 + 1 < len * 2 := by omega
        have c0 : wr.cell? ⟨g, j * 2, none⟩ = some (.pointer (some ⟨n.kids[j].b, 0, none⟩)) := by rw [blk_cell hgg, hgc (j * 2) (by omega), hf.1]; rfl
        have c1 : wr.cell? ⟨g, j * 2 + 1, none⟩ = some (.string (p ++ n.kids[j].label)) := by rw [blk_cell hgg, hgc (j * 2 + 1) hn2, hf.2]
        have hB2 := (Below.refl wr.heap.size wr).alloc (Nat.le_refl _) (.cells #[.pointer (some ⟨n.kids[j].b, 0, none⟩), .string (p ++ n.kids[j].label)] 60)
        have HB2 := Aside0.mk hB2
        have epre : ovr sk kp p n = ownE kp p n.leaf ++ ovrs sk kp p n.kids := by rw [ovr_eq, HSk.out]; rfl
        have hpt := ovrs_take sk kp p n.kids j hj'
        have hpp := ovrs_pre sk kp p n.kids (j + 1)
        have hNN : OK ((pre ++ (ownE kp p n.leaf ++ ovrs sk kp p (n.kids.take j))) ++ ovr sk kp (p ++ n.kids[j].label) n.kids[j]) := by
          have h1 := HNN.out
          rw [epre] at h1
          refine ok_pre HCL.out h1 ?_
          rw [List.append_assoc, List.append_assoc]
          refine (List.prefix_append_right_inj _).2 ((List.prefix_append_right_inj _).2 ?_)
          rw [← hpt]
          exact hpp
        have q9 := Aside0.mk (HIH.out j hj' _ _ (HSr.out.kp (KpM.of hB2)) (Nat.le_trans (Nat.le_trans HnW.out HKr.out.size) hB2.size) (abide HJa.out HJr.out hB2) hNN)
        have HPT := Aside0.mk (And.intro epre (And.intro hpt hpp))
        obtain ⟨kb, ekb⟩ : ∃ kb, n.kids[j].b = kb := ⟨_, rfl⟩
        obtain ⟨kp2, ekp⟩ : ∃ kp2, p ++ n.kids[j].label = kp2 := ⟨_, rfl⟩
        have HOv := Aside0.mk (show ovr sk kp (p ++ n.kids[j].label) n.kids[j] = ovr sk kp kp2 n.kids[j] by rw [ekp])
        rw [ekb, ekp] at q9 HB2
        rw [ekb] at c0
        rw [ekp] at c1
        have hltI : (j : Int) < (len : Int) := by omega
        have ew : wrap64 ((j : Int) + 1) = (j : Int) + 1 := by unfold wrap64; omega
        clear hf hn2 hgb hgg hgc hB2 epre hpt hpp hNN ekb ekp
        unfold nodeV ptr at q9
        gi_wp2_with (refine ⟨trivial, hdd _, ?_⟩; gi_at_call 118; refine q9.out.mono ?_)
        rintro e Wz (⟨rfl, hjz, hkz⟩ | ⟨rfl, q, hq, hxz⟩)
        · have HZ := Aside0.mk (And.intro hjz hkz)
          clear hjz hkz q9
          gi_wp2
          go_roundw
          case rel =>
            have hk2 := (KpM.of HB2.out).trans HZ.out.2
            refine ⟨j + 1, by simp, ⟨hlt⟩, ⟨?_⟩, ⟨HSr.out.kp hk2⟩, ⟨HKr.out.trans hk2⟩, ⟨ownsRow_kp HRr.out hk2⟩⟩
            have h1 := HZ.out.1
            rw [List.append_assoc, List.append_assoc, ← HOv.out, ← HPT.out.2.1] at h1
            exact h1
          case measure => simp [RowKit.intOf]; (try rw [ew]); omega
        · have HZ := Aside0.mk (And.intro hq hxz)
          clear hq hxz q9
          gi_wp2
          go_ret
          refine .inr ⟨rfl, ownE kp p n.leaf ++ ovrs sk kp p (n.kids.take j) ++ q, ?_, ?_⟩
          · rw [HPT.out.1, List.append_assoc]
            refine (List.prefix_append_right_inj _).2 (List.IsPrefix.trans ?_ HPT.out.2.2)
            rw [HPT.out.2.1, HOv.out]
            exact (List.prefix_append_right_inj _).2 HZ.out.1
          · rw [← List.append_assoc]; exact HZ.out.2
      · have hjl : j = len := by have := HI.out; omega
        subst hjl
        gi_wp2
        go_ret
        refine .inl ⟨rfl, ?_, HKr.out⟩
        have h1 := HJr.out
        rw [List.take_of_length_le (by rw [HLen.out]; exact Nat.le_refl _)] at h1
        rw [ovr_eq, HSk.out]
        exact h1
  | some lf =>
    obtain ⟨v, hvv⟩ := HN.out.2.2.2 lf hlf
    rw [hlf] at q3
    unfold lookV at q3
    simp only [hvv] at q3
    have HLf := Aside0.mk hlf
    have HVal := Aside0.mk hvv
    unfold nodeV ptr at q3
    clear hlf hvv
    cases hkpp : kp p with
    | false =>
      have HKpp := Aside0.mk hkpp
      clear hkpp
      gi_wp2_with (refine ⟨trivial, hdd _, ?_⟩; gi_at_call 93; refine (callsIn_wide.2 q3.out).mono ?_)
      rintro e W3 ⟨rfl, B3⟩
      have HA3 := Aside0.mk (belowAt HA2.out B3)
      have hb3 := HBox.out W3 HA3.out
      have b30 : W3.cell? ⟨W.heap.size, 0, none⟩ = some (.pointer (some ⟨n.b, 0, none⟩)) := by rw [blk_cell hb3]; rfl
      have b31 : W3.cell? ⟨W.heap.size, 1, none⟩ = some (.string p) := by rw [blk_cell hb3]; rfl
      clear B3 q3 hb3 b20 b21
      gi_wp2_with (refine ⟨trivial, hdd _, ?_⟩; gi_at_call 94; refine (callsIn_wide.2 (q1.out _)).mono ?_)
      rintro e W4 ⟨rfl, B4⟩
      have HA4 := Aside0.mk (belowAt HA3.out B4)
      have q4 := Aside0.mk (qp.out W4 (HStd.out W4 (belowAt HB0.out HA4.out)))
      rw [HKpp.out] at q4
      clear B4
      gi_wp2_with (refine ⟨trivial, hdd _, ?_⟩; gi_at_call 74; refine (callsIn_wide.2 q4.out).mono ?_)
      rintro e W5 ⟨rfl, B5⟩
      have HA5 := Aside0.mk (belowAt HA4.out B5)
      have hb5 := HBox.out W5 HA5.out
      have b50 : W5.cell? ⟨W.heap.size, 0, none⟩ = some (.pointer (some ⟨n.b, 0, none⟩)) := by rw [blk_cell hb5]; rfl
      have b51 : W5.cell? ⟨W.heap.size, 1, none⟩ = some (.string p) := by rw [blk_cell hb5]; rfl
      clear B5 q4 hb5 b30 b31
      gi_wp2
      repeat (first | (refine ⟨fun _ h => (by cases h), ?_⟩; gi_wp2) | ((with_reducible refine skip94 ?_); gi_wp2))
      have HSt := Aside0.mk (HStd.out W5 (belowAt HB0.out HA5.out))
      have HKp := Aside0.mk (KpM.of (n₁ := n₁) (M := M) (belowAt HB0.out HA5.out))
      have HJc : Aside0 (J (pre ++ ownE kp p n.leaf) W5) := ⟨by rw [HLf.out]; show J (pre ++ (if kp p = true then [(p, valI lf.val)] else [])) W5; rw [HKpp.out]; show J (pre ++ []) W5; rw [List.append_nil]; exact abide HJa.out HJ0.out (belowAt HB0.out HA5.out)⟩
      have HK := Aside0.mk (HSt.out.kept HkB.out.1 HkB.out.2.1 HkB.out.2.2)
      have qk := Aside0.mk (kidsO W5 n p (NdAt.keep HK.out n HN.out.1) HN.out.2.1 HN.out.2.2.1)
      unfold nodeV ptr at qk
      gi_wp2_with (refine ⟨trivial, hdd _, ?_⟩; gi_at_call 95; refine (callsIn_wide.2 qk.out).mono ?_)
      rintro e Wd ⟨v, rfl, ho, Bd⟩
      obtain ⟨A, c, ev, hrow⟩ := rowForm ho
      rw [HLen.out] at ho ev
      subst ev
      have HRow := Aside0.mk ho
      have HSd := Aside0.mk (HSt.out.kp (KpM.of Bd))
      have HKd := Aside0.mk (HKp.out.trans (KpM.of Bd))
      have HJd := Aside0.mk (abide HJa.out HJc.out Bd)
      have HWd := Aside0.mk (Nat.le_trans HnW.out (HKp.out.trans (KpM.of Bd)).size)
      clear ho hrow Bd qk HK HSt HKp HJc
      gi_wp2
      gi_loopw [12, 40] (fun v12 v40 wr => ∃ j : Nat, v40 = .int .i64 (j : Int) ∧ Aside0 (j ≤ len) ∧ Aside0 (J (pre ++ (ownE kp p n.leaf ++ ovrs sk kp p (n.kids.take j))) wr) ∧ Aside0 (Stnd wI n₁ M wr) ∧ Aside0 (KpM n₁ M W wr) ∧ Aside0 (wr.ownsRow (W5.heap.size + 1) 60 2 (.slice A len c) len (flatK p n.kids)))
        (fun v12 v40 wr => len - (RowKit.intOf v40).toNat)
      case atStart => exact ⟨0, rfl, ⟨Nat.zero_le _⟩, ⟨by simpa [ovrs] using HJd.out⟩, HSd, HKd, HRow⟩
      case round =>
        obtain ⟨j, rfl, HI, HJr, HSr, HKr, HRr⟩ := hrel
        by_cases hlt : j < len
        · have hj' : j < n.kids.length := by rw [HLen.out]; exact hlt
          obtain ⟨g, cap, cur, eg, hgb, hgg, hgc⟩ := ownsNode HRr.out (by omega)
          obtain ⟨rfl, rfl⟩ := eg
          have hf := flatK_get p n.kids j hj'
          have hn2 : j * 2 + 1 < len * 2 := by omega
          have c0 : wr.cell? ⟨g, j * 2, none⟩ = some (.pointer (some ⟨n.kids[j].b, 0, none⟩)) := by rw [blk_cell hgg, hgc (j * 2) (by omega), hf.1]; rfl
          have c1 : wr.cell? ⟨g, j * 2 + 1, none⟩ = some (.string (p ++ n.kids[j].label)) := by rw [blk_cell hgg, hgc (j * 2 + 1) hn2, hf.2]
          have hB2 := (Below.refl wr.heap.size wr).alloc (Nat.le_refl _) (.cells #[.pointer (some ⟨n.kids[j].b, 0, none⟩), .string (p ++ n.kids[j].label)] 60)
          have HB2 := Aside0.mk hB2
          have epre : ovr sk kp p n = ownE kp p n.leaf ++ ovrs sk kp p n.kids := by rw [ovr_eq, HSk.out]; rfl
          have hpt := ovrs_take sk kp p n.kids j hj'
          have hpp := ovrs_pre sk kp p n.kids (j + 1)
          have hNN : OK ((pre ++ (ownE kp p n.leaf ++ ovrs sk kp p (n.kids.take j))) ++ ovr sk kp (p ++ n.kids[j].label) n.kids[j]) := by
            have h1 := HNN.out
            rw [epre] at h1
            refine ok_pre HCL.out h1 ?_
            rw [List.append_assoc, List.append_assoc]
            refine (List.prefix_append_right_inj _).2 ((List.prefix_append_right_inj _).2 ?_)
            rw [← hpt]
            exact hpp
          have q9 := Aside0.mk (HIH.out j hj' _ _ (HSr.out.kp (KpM.of hB2)) (Nat.le_trans (Nat.le_trans HnW.out HKr.out.size) hB2.size) (abide HJa.out HJr.out hB2) hNN)
          have HPT := Aside0.mk (And.intro epre (And.intro hpt hpp))
          obtain ⟨kb, ekb⟩ : ∃ kb, n.kids[j].b = kb := ⟨_, rfl⟩
          obtain ⟨kp2, ekp⟩ : ∃ kp2, p ++ n.kids[j].label = kp2 := ⟨_, rfl⟩
          have HOv := Aside0.mk (show ovr sk kp (p ++ n.kids[j].label) n.kids[j] = ovr sk kp kp2 n.kids[j] by rw [ekp])
          rw [ekb, ekp] at q9 HB2
          rw [ekb] at c0
          rw [ekp] at c1
          have hltI : (j : Int) < (len : Int) := by omega
          have ew : wrap64 ((j : Int) + 1) = (j : Int) + 1 := by unfold wrap64; omega
          clear hf hn2 hgb hgg hgc hB2 epre hpt hpp hNN ekb ekp
          unfold nodeV ptr at q9
          gi_wp2_with (refine ⟨trivial, hdd _, ?_⟩; gi_at_call 118; refine q9.out.mono ?_)
          rintro e Wz (⟨rfl, hjz, hkz⟩ | ⟨rfl, q, hq, hxz⟩)
          · have HZ := Aside0.mk (And.intro hjz hkz)
            clear hjz hkz q9
            gi_wp2
            go_roundw
            case rel =>
              have hk2 := (KpM.of HB2.out).trans HZ.out.2
              refine ⟨j + 1, by simp, ⟨hlt⟩, ⟨?_⟩, ⟨HSr.out.kp hk2⟩, ⟨HKr.out.trans hk2⟩, ⟨ownsRow_kp HRr.out hk2⟩⟩
              have h1 := HZ.out.1
              rw [List.append_assoc, List.append_assoc, ← HOv.out, ← HPT.out.2.1] at h1
              exact h1
            case measure => simp [RowKit.intOf]; (try rw [ew]); omega
          · have HZ := Aside0.mk (And.intro hq hxz)
            clear hq hxz q9
            gi_wp2
            go_ret
            refine .inr ⟨rfl, ownE kp p n.leaf ++ ovrs sk kp p (n.kids.take j) ++ q, ?_, ?_⟩
            · rw [HPT.out.1, List.append_assoc]
              refine (List.prefix_append_right_inj _).2 (List.IsPrefix.trans ?_ HPT.out.2.2)
              rw [HPT.out.2.1, HOv.out]
              exact (List.prefix_append_right_inj _).2 HZ.out.1
            · rw [← List.append_assoc]; exact HZ.out.2
        · have hjl : j = len := by have := HI.out; omega
          subst hjl
          gi_wp2
          go_ret
          refine .inl ⟨rfl, ?_, HKr.out⟩
          have h1 := HJr.out
          rw [List.take_of_length_le (by rw [HLen.out]; exact Nat.le_refl _)] at h1
          rw [ovr_eq, HSk.out]
          exact h1
    | true =>
      have HKpp := Aside0.mk hkpp
      have eown : ownE kp p n.leaf = [(p, v)] := by rw [HLf.out]; show (if kp p = true then [(p, valI lf.val)] else []) = _; rw [hkpp, HVal.out]; rfl
      have HOwn := Aside0.mk eown
      have hlen1 : OK (pre ++ [(p, v)]) := by
        have h1 := HNN.out
        rw [ovr_eq, HSk.out, eown] at h1
        simp only [Bool.false_eq_true, if_false] at h1
        exact ok_pre HCL.out h1 ((List.prefix_append_right_inj _).2 (List.prefix_append _ _))
      have HL1 := Aside0.mk hlen1
      clear hkpp eown hlen1
      gi_wp2_with (refine ⟨trivial, hdd _, ?_⟩; gi_at_call 93; refine (callsIn_wide.2 q3.out).mono ?_)
      rintro e W3 ⟨rfl, B3⟩
      have HA3 := Aside0.mk (belowAt HA2.out B3)
      have hb3 := HBox.out W3 HA3.out
      have b30 : W3.cell? ⟨W.heap.size, 0, none⟩ = some (.pointer (some ⟨n.b, 0, none⟩)) := by rw [blk_cell hb3]; rfl
      have b31 : W3.cell? ⟨W.heap.size, 1, none⟩ = some (.string p) := by rw [blk_cell hb3]; rfl
      clear B3 q3 hb3 b20 b21
      gi_wp2_with (refine ⟨trivial, hdd _, ?_⟩; gi_at_call 94; refine (callsIn_wide.2 (q1.out _)).mono ?_)
      rintro e W4 ⟨rfl, B4⟩
      have HA4 := Aside0.mk (belowAt HA3.out B4)
      have q4 := Aside0.mk (qp.out W4 (HStd.out W4 (belowAt HB0.out HA4.out)))
      rw [HKpp.out] at q4
      clear B4
      gi_wp2_with (refine ⟨trivial, hdd _, ?_⟩; gi_at_call 74; refine (callsIn_wide.2 q4.out).mono ?_)
      rintro e W5 ⟨rfl, B5⟩
      have HA5 := Aside0.mk (belowAt HA4.out B5)
      have hb5 := HBox.out W5 HA5.out
      have b50 : W5.cell? ⟨W.heap.size, 0, none⟩ = some (.pointer (some ⟨n.b, 0, none⟩)) := by rw [blk_cell hb5]; rfl
      have b51 : W5.cell? ⟨W.heap.size, 1, none⟩ = some (.string p) := by rw [blk_cell hb5]; rfl
      clear B5 q4 hb5 b30 b31
      gi_wp2_with (refine ⟨trivial, hdd _, ?_⟩; gi_at_call 94; refine (callsIn_wide.2 (q1.out _)).mono ?_)
      rintro e W6 ⟨rfl, B6⟩
      have HA6 := Aside0.mk (belowAt HA5.out B6)
      have hb6 := HBox.out W6 HA6.out
      have hy0 := HY.out (m - 1) pre (p, v) W6 (abide HJa.out HJ0.out (belowAt HB0.out HA6.out)) HL1.out
      obtain ⟨fn, tmps, assign, body, hy, hR⟩ := hy0
      dsimp only at hy
      have HR := Aside0.mk hR
      have HB6 := Aside0.mk hb6
      clear B6 hb6 hR b50 b51 q1
      gi_wp2
      refine ⟨hdd _, ?_⟩
      refine HR.out.mono ?_
      rintro e W7 (⟨rfl, hJ7, hk7⟩ | ⟨rfl, hx7⟩)
      · have hb7 := hk7.node _ _ _ HB6.out
        have b70 : W7.cell? ⟨W.heap.size, 0, none⟩ = some (.pointer (some ⟨n.b, 0, none⟩)) := by rw [blk_cell hb7]; rfl
        have b71 : W7.cell? ⟨W.heap.size, 1, none⟩ = some (.string p) := by rw [blk_cell hb7]; rfl
        have HSt := Aside0.mk ((HStd.out W6 (belowAt HB0.out HA6.out)).kp hk7)
        have HKp := Aside0.mk ((KpM.of (n₁ := n₁) (M := M) (belowAt HB0.out HA6.out)).trans hk7)
        have HJc : Aside0 (J (pre ++ ownE kp p n.leaf) W7) := ⟨by rw [HOwn.out]; exact hJ7⟩
        clear hJ7 hk7 hb7 HR hy
        gi_wp2
        have HK := Aside0.mk (HSt.out.kept HkB.out.1 HkB.out.2.1 HkB.out.2.2)
        have qk := Aside0.mk (kidsO W7 n p (NdAt.keep HK.out n HN.out.1) HN.out.2.1 HN.out.2.2.1)
        unfold nodeV ptr at qk
        gi_wp2_with (refine ⟨trivial, hdd _, ?_⟩; gi_at_call 95; refine (callsIn_wide.2 qk.out).mono ?_)
        rintro e Wd ⟨v, rfl, ho, Bd⟩
        obtain ⟨A, c, ev, hrow⟩ := rowForm ho
        rw [HLen.out] at ho ev
        subst ev
        have HRow := Aside0.mk ho
        have HSd := Aside0.mk (HSt.out.kp (KpM.of Bd))
        have HKd := Aside0.mk (HKp.out.trans (KpM.of Bd))
        have HJd := Aside0.mk (abide HJa.out HJc.out Bd)
        have HWd := Aside0.mk (Nat.le_trans HnW.out (HKp.out.trans (KpM.of Bd)).size)
        clear ho hrow Bd qk HK HSt HKp HJc
        gi_wp2
        gi_loopw [12, 40] (fun v12 v40 wr => ∃ j : Nat, v40 = .int .i64 (j : Int) ∧ Aside0 (j ≤ len) ∧ Aside0 (J (pre ++ (ownE kp p n.leaf ++ ovrs sk kp p (n.kids.take j))) wr) ∧ Aside0 (Stnd wI n₁ M wr) ∧ Aside0 (KpM n₁ M W wr) ∧ Aside0 (wr.ownsRow (W7.heap.size + 1) 60 2 (.slice A len c) len (flatK p n.kids)))
          (fun v12 v40 wr => len - (RowKit.intOf v40).toNat)
        case atStart => exact ⟨0, rfl, ⟨Nat.zero_le _⟩, ⟨by simpa [ovrs] using HJd.out⟩, HSd, HKd, HRow⟩
        case round =>
          obtain ⟨j, rfl, HI, HJr, HSr, HKr, HRr⟩ := hrel
          by_cases hlt : j < len
          · have hj' : j < n.kids.length := by rw [HLen.out]; exact hlt
            obtain ⟨g, cap, cur, eg, hgb, hgg, hgc⟩ := ownsNode HRr.out (by omega)
            obtain ⟨rfl, rfl⟩ := eg
            have hf := flatK_get p n.kids j hj'
            have hn2 : j * 2 + 1 < len * 2 := by omega
            have c0 : wr.cell? ⟨g, j * 2, none⟩ = some (.pointer (some ⟨n.kids[j].b, 0, none⟩)) := by rw [blk_cell hgg, hgc (j * 2) (by omega), hf.1]; rfl
            have c1 : wr.cell? ⟨g, j * 2 + 1, none⟩ = some (.string (p ++ n.kids[j].label)) := by rw [blk_cell hgg, hgc (j * 2 + 1) hn2, hf.2]
            have hB2 := (Below.refl wr.heap.size wr).alloc (Nat.le_refl _) (.cells #[.pointer (some ⟨n.kids[j].b, 0, none⟩), .string (p ++ n.kids[j].label)] 60)
            have HB2 := Aside0.mk hB2
            have epre : ovr sk kp p n = ownE kp p n.leaf ++ ovrs sk kp p n.kids := by rw [ovr_eq, HSk.out]; rfl
            have hpt := ovrs_take sk kp p n.kids j hj'
            have hpp := ovrs_pre sk kp p n.kids (j + 1)
            have hNN : OK ((pre ++ (ownE kp p n.leaf ++ ovrs sk kp p (n.kids.take j))) ++ ovr sk kp (p ++ n.kids[j].label) n.kids[j]) := by
              have h1 := HNN.out
              rw [epre] at h1
              refine ok_pre HCL.out h1 ?_
              rw [List.append_assoc, List.append_assoc]
              refine (List.prefix_append_right_inj _).2 ((List.prefix_append_right_inj _).2 ?_)
              rw [← hpt]
              exact hpp
            have q9 := Aside0.mk (HIH.out j hj' _ _ (HSr.out.kp (KpM.of hB2)) (Nat.le_trans (Nat.le_trans HnW.out HKr.out.size) hB2.size) (abide HJa.out HJr.out hB2) hNN)
            have HPT := Aside0.mk (And.intro epre (And.intro hpt hpp))
            obtain ⟨kb, ekb⟩ : ∃ kb, n.kids[j].b = kb := ⟨_, rfl⟩
            obtain ⟨kp2, ekp⟩ : ∃ kp2, p ++ n.kids[j].label = kp2 := ⟨_, rfl⟩
            have HOv := Aside0.mk (show ovr sk kp (p ++ n.kids[j].label) n.kids[j] = ovr sk kp kp2 n.kids[j] by rw [ekp])
            rw [ekb, ekp] at q9 HB2
            rw [ekb] at c0
            rw [ekp] at c1
            have hltI : (j : Int) < (len : Int) := by omega
            have ew : wrap64 ((j : Int) + 1) = (j : Int) + 1 := by unfold wrap64; omega
            clear hf hn2 hgb hgg hgc hB2 epre hpt hpp hNN ekb ekp
            unfold nodeV ptr at q9
            gi_wp2_with (refine ⟨trivial, hdd _, ?_⟩; gi_at_call 118; refine q9.out.mono ?_)
            rintro e Wz (⟨rfl, hjz, hkz⟩ | ⟨rfl, q, hq, hxz⟩)
            · have HZ := Aside0.mk (And.intro hjz hkz)
              clear hjz hkz q9
              gi_wp2
              go_roundw
              case rel =>
                have hk2 := (KpM.of HB2.out).trans HZ.out.2
                refine ⟨j + 1, by simp, ⟨hlt⟩, ⟨?_⟩, ⟨HSr.out.kp hk2⟩, ⟨HKr.out.trans hk2⟩, ⟨ownsRow_kp HRr.out hk2⟩⟩
                have h1 := HZ.out.1
                rw [List.append_assoc, List.append_assoc, ← HOv.out, ← HPT.out.2.1] at h1
                exact h1
              case measure => simp [RowKit.intOf]; (try rw [ew]); omega
            · have HZ := Aside0.mk (And.intro hq hxz)
              clear hq hxz q9
              gi_wp2
              go_ret
              refine .inr ⟨rfl, ownE kp p n.leaf ++ ovrs sk kp p (n.kids.take j) ++ q, ?_, ?_⟩
              · rw [HPT.out.1, List.append_assoc]
                refine (List.prefix_append_right_inj _).2 (List.IsPrefix.trans ?_ HPT.out.2.2)
                rw [HPT.out.2.1, HOv.out]
                exact (List.prefix_append_right_inj _).2 HZ.out.1
              · rw [← List.append_assoc]; exact HZ.out.2
          · have hjl : j = len := by have := HI.out; omega
            subst hjl
            gi_wp2
            go_ret
            refine .inl ⟨rfl, ?_, HKr.out⟩
            have h1 := HJr.out
            rw [List.take_of_length_le (by rw [HLen.out]; exact Nat.le_refl _)] at h1
            rw [ovr_eq, HSk.out]
            exact h1
      · have HX := Aside0.mk hx7
        clear hx7 HR hy
        gi_wp2
        go_ret
        refine .inr ⟨rfl, [(p, v)], ?_, HX.out⟩
        rw [ovr_eq, HSk.out, HOwn.out]
        exact List.prefix_append _ _
end Go.Proofs.Ytjhgknagmiekeaa.VOU
set_option linter.unusedVariables false
set_option linter.unusedSimpArgs false
namespace Go.Proofs.Ytjhgknagmiekeaa.VOU
open Go.RowKit Go.Lib Go.Proofs Go.Proofs.Ytjhgknagmiekeaa.T Go.Proofs.Ytjhgknagmiekeaa.V
open Go.Proofs.YtjhgknagmiekeaaW.PrintWords hiding blk_cell
theorem over_in (bp : Nat) (l n₁ : Nat) (OK : List (ByteArray × Int) → Prop) (hcl : ∀ a b, OK (a ++ b) → OK a) (M : Nat → Prop) (J Jx : List (ByteArray × Int) → World → Prop) (hJ : Abd J)
    (hY : ∀ m pre (x : ByteArray × Int) W, J pre W → OK (pre ++ [x]) → YieldAt Fence.wide m Try.prog l #[.string x.1, .int .i64 x.2] W fun e W' => (e = .returned (.bool true) ∧ J (pre ++ [x]) W' ∧ KpM n₁ M W W') ∨ (e = .returned (.bool false) ∧ Jx (pre ++ [x]) W'))
    (wI wB : World) (hkB : Kept wB wI) (hnB : wB.heap.size ≤ n₁) (hM : ∀ k, k < wB.heap.size → ¬ M k) (sk kp : ByteArray → Bool)
    (hsk : ∀ q W, Stnd wI n₁ M W → Calls Try.prog 72 #[.string q, .pointer (some ⟨bp, 0, none⟩)] W fun e W' => e = .returned (.bool (sk q)) ∧ Below W.heap.size W W')
    (hkp : ∀ q W, Stnd wI n₁ M W → Calls Try.prog 74 #[.string q, .pointer (some ⟨bp, 0, none⟩)] W fun e W' => e = .returned (.bool (kp q)) ∧ Below W.heap.size W W') :
    ∀ (N : Nat) (n : Nd) (m : Nat) (p : ByteArray) (B : Nat) (pre : List (ByteArray × Int)) (W : World), nsz n ≤ N → NdAt wB n → Ok n → IntVals n → Fits n B → p.size + (B - n.label.size) < 9000000000000000000 →
      Stnd wI n₁ M W → n₁ ≤ W.heap.size → J pre W → OK (pre ++ ovr sk kp p n) →
      CallsIn Fence.wide m Try.prog 118 #[nodeV n.b p, .func (.func 72) #[] #[.pointer (some ⟨bp, 0, none⟩)], .func (.func 74) #[] #[.pointer (some ⟨bp, 0, none⟩)], .func (.yield l) #[] #[]] W (Post n₁ M J Jx pre (ovr sk kp p n) W) := by
  intro N
  induction N with
  | zero =>
    intro n m p B pre W hN
    cases n with
    | mk _ _ _ ks _ => exfalso; unfold nsz at hN; omega
  | succ N ih =>
    intro n m p B pre W hN hn ho hv hf hB hst hnW hJ0 hNN
    have hfa : ∀ k ∈ n.kids, k.label.size ≤ B - n.label.size ∧ Fits k (B - n.label.size) := fun k hk => by
      have h1 := hf.parts.2.mem k hk
      exact ⟨h1.parts.1, h1⟩
    cases hs : sk p with
    | true => exact skip_in bp l n₁ M J Jx hJ wI sk kp hsk m n p pre W hst hJ0 hs
    | false =>
      refine deep_in bp l n₁ OK hcl M J Jx hJ hY wI wB hkB hnB hM sk kp hsk hkp m n p pre W hn ho (fun l hl => ?_) (fun k hk => by have := (hfa k hk).1; omega) hst hnW hJ0 hNN hs (fun i hi pre' W' h1 h2 h3 h4 => ?_)
      · exact hv [] l (by rw [findT_nil]; exact hl)
      · have hka : n.kids[i] ∈ n.kids := List.getElem_mem _
        have hsz := nsz_kid hka
        have hfk := hfa _ hka
        refine ih n.kids[i] (m - 1) _ (B - n.label.size) pre' W' (by omega) (hn.parts.choose_spec.2.2.2.mem _ hka) (ho.parts.2.2.get _ hka) (fun r l e => hv (L n.kids[i].label ++ r) l (by rw [findT_kid ho hka]; exact e)) hfk.2 ?_ h1 h2 h3 h4
        rw [ByteArray.size_append]
        have := hfk.1
        omega
theorem below_drewA {B : Nat} {w w' : World} (h : Below B w w') : Below B w w'.drew := ⟨h.os, h.tape, h.output, h.size, h.block⟩
def Closed (w : World) (bp : Nat) (bt bs bk tb : Nat) : Prop := w.heap[bt]? = some (.cells #[ptr tb] 24 (0, 0)) ∧ w.heap[bs]? = some (.cells #[.func (.func 72) #[] #[.pointer (some ⟨bp, 0, none⟩)]] 110 (0, 0)) ∧ w.heap[bk]? = some (.cells #[.func (.func 74) #[] #[.pointer (some ⟨bp, 0, none⟩)]] 110 (0, 0))
set_option maxHeartbeats 4000000 in
set_option maxRecDepth 100000 in
theorem walked_calls (bp : Nat) (l n₁ : Nat) (OK : List (ByteArray × Int) → Prop) (hcl : ∀ a b, OK (a ++ b) → OK a) (M : Nat → Prop) (J Jx : List (ByteArray × Int) → World → Prop) (hJ : Abd J)
    (hY : ∀ m pre (x : ByteArray × Int) W, J pre W → OK (pre ++ [x]) → YieldAt Fence.wide m Try.prog l #[.string x.1, .int .i64 x.2] W fun e W' => (e = .returned (.bool true) ∧ J (pre ++ [x]) W' ∧ KpM n₁ M W W') ∨ (e = .returned (.bool false) ∧ Jx (pre ++ [x]) W'))
    (wI wB : World) (hkB : Kept wB wI) (hnB : wB.heap.size ≤ n₁) (hM : ∀ k, k < wB.heap.size → ¬ M k) (sk kp : ByteArray → Bool)
    (hsk : ∀ q W, Stnd wI n₁ M W → Calls Try.prog 72 #[.string q, .pointer (some ⟨bp, 0, none⟩)] W fun e W' => e = .returned (.bool (sk q)) ∧ Below W.heap.size W W')
    (hkp : ∀ q W, Stnd wI n₁ M W → Calls Try.prog 74 #[.string q, .pointer (some ⟨bp, 0, none⟩)] W fun e W' => e = .returned (.bool (kp q)) ∧ Below W.heap.size W W')
    (tb : Nat) (root : Nd) (ht : Tr wB tb root) (bt bs bk : Nat) (W : World) (hc : Closed W bp bt bs bk tb) (hst : Stnd wI n₁ M W) (hnW : n₁ ≤ W.heap.size) (hJ0 : J [] W) (hNN : OK (ovr sk kp ⟨#[]⟩ root)) :
    Calls Try.prog 117 #[.func (.yield l) #[] #[], ptr bt, ptr bs, ptr bk] W fun e W' => (∃ v, e = .returned v) ∧ ((∃ ys, ys = ovr sk kp ⟨#[]⟩ root ∧ J ys W') ∨ (∃ pre, pre <+: ovr sk kp ⟨#[]⟩ root ∧ Jx pre W')) := by
  obtain ⟨h1, h2, h3⟩ := hc
  have c1 : W.cell? ⟨bt, 0, none⟩ = some (.pointer (some ⟨tb, 0, none⟩)) := by rw [blk_cell h1]; rfl
  have c2 : W.cell? ⟨bs, 0, none⟩ = some (.func (.func 72) #[] #[.pointer (some ⟨bp, 0, none⟩)]) := by rw [blk_cell h2]; rfl
  have c3 : W.cell? ⟨bk, 0, none⟩ = some (.func (.func 74) #[] #[.pointer (some ⟨bp, 0, none⟩)]) := by rw [blk_cell h3]; rfl
  have hkW : Kept wB W := hst.kept hkB hnB hM
  have q1 := Aside0.mk (fun W1 (h : Below W.heap.size W W1) => rootC W1 tb root _ ((ht.at_.keep hkW).keep (Kept.of h)))
  have q2 : Aside0 (∀ W1, Below W.heap.size W W1 → Calls Try.prog 118 #[nodeV root.b ⟨#[]⟩, .func (.func 72) #[] #[.pointer (some ⟨bp, 0, none⟩)], .func (.func 74) #[] #[.pointer (some ⟨bp, 0, none⟩)], .func (.yield l) #[] #[]] W1 fun e W' => ∃ b, e = .returned (.bool b) ∧ Aside0 ((∃ ys, ys = ovr sk kp ⟨#[]⟩ root ∧ J ys W') ∨ (∃ pre, pre <+: ovr sk kp ⟨#[]⟩ root ∧ Jx pre W'))) := ⟨fun W1 h => by
    have q := callsIn_wide.1 (over_in bp l n₁ OK hcl M J Jx hJ hY wI wB hkB hnB hM sk kp hsk hkp (nsz root) root 3 ⟨#[]⟩ 3999999999999 [] W1 (Nat.le_refl _) ht.at_.root ht.fine.ok ht.vals ht.fine.fits (by show 0 + _ < _; omega) (hst.kp (KpM.of h)) (Nat.le_trans hnW h.size) (abide hJ hJ0 h) (by simpa using hNN))
    refine q.mono ?_
    rintro e W' (⟨rfl, h1, h2⟩ | ⟨rfl, q, h1, h2⟩)
    · exact ⟨true, rfl, ⟨.inl ⟨_, rfl, by simpa using h1⟩⟩⟩
    · exact ⟨false, rfl, ⟨.inr ⟨q, h1, by simpa using h2⟩⟩⟩⟩
  have HB0 := Aside0.mk (below_drewA (Below.refl W.heap.size W))
  clear hkW hsk hkp ht h1 h2 h3 hst hnW hJ0 hNN hJ hY hkB hnB hM
  unfold nodeV ptr at q1 q2
  unfold ptr
  go_enter Try.func117, Try.ntmps117
  have HBn := HB0
  go_region_with (first
    | (go_at_call 42; refine (q1.out _ HBn.out).mono ?_; rintro e W1 ⟨rfl, B1⟩; have d2 := (Kept.of B1).cell c2; have d3 := (Kept.of B1).cell c3; have n0_ := Aside0.mk (belowAt HBn.out B1); clear HBn; have HBn := n0_; clear n0_ B1)
    | (go_at_call 118; refine (q2.out _ HBn.out).mono ?_; rintro e W2 ⟨b, rfl, HF⟩))
  all_goals
    refine bodyPost_end (results_none rfl _ _ _) rfl ?_
    exact ⟨⟨_, rfl⟩, HF.out⟩
end Go.Proofs.Ytjhgknagmiekeaa.VOU
