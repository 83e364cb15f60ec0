/- joined: N10 V25 V11 -/
import Derived.Test.YtjhgknagmiekeaaJB18
import Derived.Test.YtjhgknagmiekeaaJB2
import Derived.Test.YtjhgknagmiekeaaRows
import Derived.Test.YtjhgknagmiekeaaJB4
import Derived.Deep.Slices
import Derived.Deep.Fields
import Derived.ChangeSame
import Derived.SizedLaws
import Derived.ProofKit
set_option linter.unusedVariables false
set_option linter.unusedSimpArgs false
namespace Go.Proofs.Ytjhgknagmiekeaa.N
open Go.RowKit Go.Proofs.Ytjhgknagmiekeaa.K Go.Proofs.YtjhgknagmiekeaaW.PrintWords Go.Proofs.YtjhgknagmiekeaaW.PrintLast
open Go.Proofs.Ytjhgknagmiekeaa.T (Nd Lf Ent All valT findT IntVals Fine Tr)
open Go.Proofs.Ytjhgknagmiekeaa.V (valI ovr kpF skF lessB btwL fromL)
theorem less_evB (x y : ByteArray) (hx : x.size < 4611686018427387904) : Ev (fun k => B.musterref01_Less.f k x y) (Op.bytesLess x.toList y.toList) := by
  have key : ∀ d i : Nat, i ≤ x.size → x.size - i = d → Ev (fun k => B.musterref01_Less.l0 k x y (i : Int)) (Op.bytesLess (x.data.toList.drop i) (y.data.toList.drop i)) := by
    intro d
    induction d with
    | zero =>
      intro i hi hd
      have hz : x.data.toList.drop i = [] := List.drop_eq_nil_of_le (by rw [← size_list]; omega)
      by_cases hy : i < y.size
      · obtain ⟨b, hb, _⟩ := bt_drop y i hy
        rw [hz, hb]
        refine Ev.step (f := fun k => B.musterref01_Less.j1 k x y i true) (fun k => ?_) ?_
        · simp only [B.musterref01_Less.l0]
          rw [if_pos (by omega), if_pos (by omega)]
        · refine Ev.step (f := fun k => some true) (fun k => ?_) (Ev.now _)
          simp only [B.musterref01_Less.j1, if_true]
      · have hz2 : y.data.toList.drop i = [] := List.drop_eq_nil_of_le (by rw [← size_list]; omega)
        rw [hz, hz2]
        refine Ev.step (f := fun k => some false) (fun k => ?_) (Ev.now _)
        simp only [B.musterref01_Less.l0]
        rw [if_neg (by omega)]
    | succ d ih =>
      intro i hi hd
      have hlt : i < x.size := by omega
      obtain ⟨a, ha, hba⟩ := bt_drop x i hlt
      by_cases hy : i < y.size
      · obtain ⟨b, hb, hbb⟩ := bt_drop y i hy
        have hab : (bt x i < bt y i) ↔ a < b := by rw [hba, hbb, UInt8.lt_iff_toNat_lt]; omega
        have hba2 : (bt x i > bt y i) ↔ b < a := by rw [hba, hbb, UInt8.lt_iff_toNat_lt]; omega
        rw [ha, hb, less_cons]
        refine Ev.step (f := fun k => B.musterref01_Less.j1 k x y i (decide (a < b))) (fun k => ?_) ?_
        · simp only [B.musterref01_Less.l0]
          rw [if_pos (by omega), if_neg (by omega), if_pos (by omega), if_pos (by omega)]
          congr 1
          exact decide_eq_decide.2 hab
        · rcases u8_tri a b with hl | rfl | hl
          · refine Ev.step (f := fun k => some true) (fun k => ?_) (by simp only [hl, decide_true, Bool.true_or]; exact Ev.now _)
            simp only [B.musterref01_Less.j1, hl, decide_true, if_true]
          · have hn : ¬ a < a := by rw [UInt8.lt_iff_toNat_lt]; omega
            have e : (decide (a < a) || (a == a && Op.bytesLess (x.data.toList.drop (i + 1)) (y.data.toList.drop (i + 1)))) = Op.bytesLess (x.data.toList.drop (i + 1)) (y.data.toList.drop (i + 1)) := by simp
            rw [e]
            refine Ev.step (f := fun k => B.musterref01_Less.l0 k x y ((i + 1 : Nat) : Int)) (fun k => ?_) (ih (i + 1) (by omega) (by omega))
            simp only [B.musterref01_Less.j1]
            rw [if_neg (by simp), if_pos (by omega), if_pos (by omega), if_pos (by omega), if_neg (by rw [hba2]; exact hn), show wrap64 ((i : Int) + 1) = ((i + 1 : Nat) : Int) from by unfold wrap64; omega]
          · obtain ⟨h1, h2, h3⟩ := u8_asym b a hl
            refine Ev.step (f := fun k => some false) (fun k => ?_) (by simp only [h1, h3, decide_false, Bool.false_or, beq_iff_eq, Bool.and_eq_true]; have : (a == b) = false := by simpa using h3
                                                                        rw [this]; exact Ev.now _)
            simp only [B.musterref01_Less.j1]
            rw [if_neg (by simp [h1]), if_pos (by omega), if_pos (by omega), if_pos (by omega), if_pos (by rw [hba2]; exact hl)]
      · have hz2 : y.data.toList.drop i = [] := List.drop_eq_nil_of_le (by rw [← size_list]; omega)
        rw [ha, hz2]
        refine Ev.step (f := fun k => some false) (fun k => ?_) (Ev.now _)
        simp only [B.musterref01_Less.l0]
        rw [if_neg (by omega)]
  have := key x.size 0 (by omega) (by omega)
  rw [Lib.toList_data, Lib.toList_data]
  exact this
def kpB (lo hi q : List UInt8) : Bool := kpF lo q && decide (q < hi)
theorem between_ev (t : Rt) (h : Rok t) (hl : t.ks.length < 100000000000) (lo hi : ByteArray) : Ev (fun k => B.musterref04_Between.f k t.ks t.vs t.ls t.ps t.ms lo hi) (ints (plc t.ks (fun k => kpB (T.L lo) (T.L hi) (T.L k)))) := by
  have key : ∀ d i : Nat, t.ks.length - i = d → i ≤ t.ks.length → Ev (fun k => B.musterref04_Between.l0 k lo hi (ints (upto t.ks (fun k => kpB (T.L lo) (T.L hi) (T.L k)) i)) t.ks (t.ks.length : Int) (i : Int)) (ints (plc t.ks (fun k => kpB (T.L lo) (T.L hi) (T.L k)))) := by
    intro d
    induction d with
    | zero =>
      intro i hd hi'
      have e : i = t.ks.length := by omega
      subst e
      refine Ev.step (f := fun k => some (ints (plc t.ks (fun k => kpB (T.L lo) (T.L hi) (T.L k))))) (fun k => ?_) (Ev.now _)
      simp only [B.musterref04_Between.l0]
      rw [if_neg (by omega)]
      rfl
    | succ d ih =>
      intro i hd hi'
      have hlt : i < t.ks.length := by omega
      have h1 := less_evB (gd t.ks i) lo (h.sk _ (gd_mem hlt))
      have h2 := less_evB (gd t.ks i) hi (h.sk _ (gd_mem hlt))
      rw [less_dec] at h1 h2
      have hi2 := ih (i + 1) (by omega) (by omega)
      have hul := upto_le t.ks (fun k => kpB (T.L lo) (T.L hi) (T.L k)) i
      refine Ev.step (f := fun k => (B.musterref01_Less.f k (gd t.ks i) lo).bind fun b => if b = true then B.musterref04_Between.l0 k lo hi (ints (upto t.ks (fun k => kpB (T.L lo) (T.L hi) (T.L k)) i)) t.ks (t.ks.length : Int) ((i + 1 : Nat) : Int) else (B.musterref01_Less.f k (gd t.ks i) hi).bind fun b => if b = true then B.musterref04_Between.l0 k lo hi ((ints (upto t.ks (fun k => kpB (T.L lo) (T.L hi) (T.L k)) i)) ++ [(i : Int)]) t.ks (t.ks.length : Int) ((i + 1 : Nat) : Int) else B.musterref04_Between.l0 k lo hi (ints (upto t.ks (fun k => kpB (T.L lo) (T.L hi) (T.L k)) i)) t.ks (t.ks.length : Int) ((i + 1 : Nat) : Int)) (fun k => ?_) (Ev.bind h1 ?_)
      · simp only [B.musterref04_Between.l0]
        rw [if_pos (by omega), if_pos (by omega), if_pos (by omega), rdOf_gd, wadd i (by omega), if_pos (by rw [List.length_map]; omega)]
      · rw [upto_succ] at hi2
        by_cases hb : T.L (gd t.ks i) < T.L lo
        · have e : kpB (T.L lo) (T.L hi) (T.L (gd t.ks i)) = false := by unfold kpB kpF; rw [decide_eq_true hb]; rfl
          rw [if_neg (by rw [e]; simp)] at hi2
          simp only [decide_eq_true hb, if_true]
          exact hi2
        · simp only [decide_eq_false hb, Bool.false_eq_true, if_false]
          refine Ev.bind h2 ?_
          by_cases hc : T.L (gd t.ks i) < T.L hi
          · have e : kpB (T.L lo) (T.L hi) (T.L (gd t.ks i)) = true := by unfold kpB kpF; rw [decide_eq_false hb, decide_eq_true hc]; rfl
            rw [if_pos e] at hi2
            simp only [decide_eq_true hc, if_true]
            simpa using hi2
          · have e : kpB (T.L lo) (T.L hi) (T.L (gd t.ks i)) = false := by unfold kpB kpF; rw [decide_eq_false hc]; simp
            rw [if_neg (by rw [e]; simp)] at hi2
            simp only [decide_eq_false hc, Bool.false_eq_true, if_false]
            exact hi2
  exact key t.ks.length 0 (by omega) (by omega)
theorem betweenRtC (w : World) (t : Rt) (h : Rok t) (hl : t.ks.length < 100000000000) (v0 v1 v2 v3 v4 : Value) (hm : RtAt w t v0 v1 v2 v3 v4) (lo hi : ByteArray) :
    Calls Try.prog 30 #[.agg #[v0, v1, v2, v3, v4], .string lo, .string hi] w fun e w' => ∃ A n c, e = .returned (.slice A n c) ∧ PlAt w' (.slice A n c) (plc t.ks (fun k => kpB (T.L lo) (T.L hi) (T.L k))) ∧ Below w.heap.size w w' := by
  obtain ⟨k, hk⟩ := (between_ev t h hl lo hi).rounds
  obtain ⟨⟨A0, c0, rfl, p0, q0⟩, ⟨A1, c1, rfl, p1, q1⟩, ⟨A2, c2, rfl, p2, q2⟩, ⟨A3, c3, rfl, p3, q3⟩, ⟨A4, c4, rfl, p4, q4⟩⟩ := hm
  refine (B.musterref04_Between.calls k A0 c0 t.ks A1 c1 t.vs A2 c2 t.ls A3 c3 t.ps A4 c4 t.ms lo hi _ w q0 p0 q1 p1 q2 p2 q3 p3 q4 p4 hk).mono ?_
  rintro e w' ⟨v, rfl, hr, hb⟩
  obtain ⟨A, c, rfl, h1, h2⟩ := Kd.R_reads hr
  exact ⟨A, _, c, rfl, ⟨A, c, rfl, h1, h2⟩, hb⟩
theorem tw_filter {α : Type} (p : α → Bool) : ∀ L : List α, L.Pairwise (fun a b => p b = true → p a = true) → L.takeWhile p = L.filter p
  | [], _ => rfl
  | a :: L, h => by
    rw [List.pairwise_cons] at h
    by_cases ha : p a = true
    · rw [List.takeWhile_cons, if_pos ha, List.filter_cons_of_pos ha, tw_filter p L h.2]
    · rw [List.takeWhile_cons, if_neg ha, List.filter_cons_of_neg ha]
      symm
      rw [List.filter_eq_nil_iff]
      exact fun b hb hp => ha (h.1 b hb hp)
theorem lessB_eq (hi : ByteArray) (x : ByteArray × Int) : lessB hi x = decide (T.L x.1 < T.L hi) := by unfold lessB; exact V.less_L _ _
theorem btw_eq {root : Nd} {t : Rt} (hg : T.Good root) (ht : Rok t) (h : Agree root t) (lo hi : ByteArray) : btwL lo hi root = (t.ks.zip t.vs).filter (fun x => kpB (T.L lo) (T.L hi) (T.L x.1)) := by
  have e : fromL lo root = (t.ks.zip t.vs).filter (fun x => kpF (T.L lo) (T.L x.1)) := ovr_eqs hg h (skF (T.L lo)) (kpF (T.L lo)) (hskF _)
  unfold btwL
  rw [e, tw_filter, List.filter_filter]
  · refine List.filter_congr (fun x _ => ?_)
    rw [lessB_eq]
    unfold kpB
    exact Bool.and_comm _ _
  · have hr : (t.ks.zip t.vs).Pairwise (fun a b => T.L a.1 < T.L b.1) := by
      have h2 := rise_zip ht.rise ht.v.symm
      rw [List.pairwise_map] at h2
      exact h2
    refine (hr.filter _).imp (fun {a b} hab hb => ?_)
    rw [lessB_eq, decide_eq_true_eq] at hb ⊢
    exact T.blt_trans hab hb
end Go.Proofs.Ytjhgknagmiekeaa.N
set_option linter.unusedVariables false
set_option linter.unusedSimpArgs false
namespace Go.Proofs.Ytjhgknagmiekeaa.V
open Go.Proofs.Ytjhgknagmiekeaa.VU (below_drewA)
open Go.RowKit Go.Lib Go.Proofs Go.Shelf
open Go.Proofs.Ytjhgknagmiekeaa.T Go.Proofs.Ytjhgknagmiekeaa.N Go.Proofs.Ytjhgknagmiekeaa.K
open Go.Proofs.YtjhgknagmiekeaaW.PrintWords hiding blk_cell
attribute [local go_sem] Oper.semAt_some
set_option maxRecDepth 100000 in
set_option maxHeartbeats 8000000 in
theorem betweenLaw (A : Option Addr) (c : Nat) (l : List S35) (lo hi : ByteArray) (w : World) (hl : EntAt w A l) (hc : l.length ≤ c) (hlen : l.length < 10000000000) (hs : ∀ e ∈ l, e.f0.size < 4000000000000) :
    Calls Try.prog 6 #[.slice A l.length c, .string lo, .string hi] w fun e w' => e = .returned (.bool true) ∧ Below w.heap.size w w' := by
  refine callsIn_wide.1 (show CallsIn Fence.wide 9 Try.prog 6 _ w _ from ?_)
  have qa := Aside0.mk (show CallsIn Fence.wide 8 Try.prog 20 _ w _ from callsIn_wide.2 (aliveC w))
  have qb := Aside0.mk (fun w1 (h : Below w.heap.size w w1) => show CallsIn Fence.wide 8 Try.prog 21 _ w1 _ from callsIn_wide.2 (builtC A c l w1 (Kd.C_below hl h) hc hlen hs))
  have qf := Aside0.mk (fun w1 tb => show CallsIn Fence.wide 8 Try.prog 29 _ w1 _ from callsIn_wide.2 ((betweenC tb lo hi w1).mono (R' := fun e w' => ∃ bt bl bh, e = .returned (.func (.func 81) #[] #[ptr bt, ptr bl, ptr bh]) ∧ w'.heap[bt]? = some (.cells #[ptr tb] 24 (0, 0)) ∧ Bx w' bl lo ∧ Bx w' bh hi ∧ Below w1.heap.size w1 w') (fun e w' ⟨h0, h1, h2, h3, h4⟩ => ⟨_, _, _, h0, h1, h2, h3, h4⟩)))
  have HN := Aside0.mk hlen
  clear hl hc hlen hs
  unfold ptr at qb qf
  have hnf := funcNil
  refine callsIn_of_wp_marks Try.func6 rfl trivial ?_ rfl
  simp only [Try.ntmps6, List.size_toArray, List.length_cons, List.length_nil, Nat.reduceAdd, Nat.reduceSub, Array.replicate_succ, Array.replicate_zero, List.push_toArray, List.append_toArray, List.nil_append, List.cons_append]
  gi_wp2_with (first
    | (refine ⟨trivial, ?_⟩; gi_at_call 20; refine qa.out.mono ?_; rintro e w0 ⟨rfl, hb0⟩; have HB0 := Aside0.mk hb0; clear hb0)
    | (refine ⟨trivial, ?_⟩; gi_at_call 21; refine (qb.out _ HB0.out).mono ?_; rintro e w1 ⟨tb, root, t, v0, v1, v2, v3, v4, rfl, ht, hk, ha, hr, hl, hv, hb⟩; obtain ⟨⟨A0, n0, c0, rfl⟩, ⟨A1, n1, c1, rfl⟩, ⟨A2, n2, c2, rfl⟩, ⟨A3, n3, c3, rfl⟩, ⟨A4, n4, c4, rfl⟩⟩ := hr.forms; have H1 := Aside0.mk (And.intro ht (And.intro hk (And.intro ha (And.intro hr (And.intro hl hb))))); clear ht hk ha hr hl hv hb)
    | (refine ⟨trivial, ?_⟩; gi_at_call 29; refine (qf.out _ _).mono ?_; rintro e w2 ⟨bt, bl, bh, rfl, h1, h2, h3, h4⟩; have H2 := Aside0.mk (And.intro h1 (And.intro h2 (And.intro h3 h4))); clear h1 h2 h3 h4))
  clear qa qb qf hnf
  obtain ⟨h1, h2, h3, h4⟩ := H2.out
  simp only [World.size_alloc] at h4
  have hsz2 : w1.heap.size + 1 + 1 ≤ w2.heap.size := by have := h4.size; simp only [World.size_alloc] at this; exact this
  have bG : Boxed w2 (w1.heap.size + 1) 22 (.slice none 0 0) := (h4.block _ (by omega)).trans (by have := World.alloc_heap_new (w1.alloc (Obj.cells #[Value.slice A0 n0 c0, Value.slice A1 n1 c1, Value.slice A2 n2 c2, Value.slice A3 n3 c3, Value.slice A4 n4 c4] 28)) (Obj.cells #[.slice none 0 0] 22); rwa [World.size_alloc] at this)
  have bM : w2.heap[w1.heap.size]? = some (.cells #[.slice A0 n0 c0, .slice A1 n1 c1, .slice A2 n2 c2, .slice A3 n3 c3, .slice A4 n4 c4] 28 (0, 0)) := (h4.block _ (by omega)).trans ((Below.heap_alloc _ _ _ (by simp)).trans (World.alloc_heap_new w1 _))
  have hB0 : Below w1.heap.size w1 w2 := (((Below.refl _ w1).alloc (Nat.le_refl _) _).alloc (by simp) _).trans (h4.mono (by omega))
  have ht := H1.out.1
  have hf := ht.fine.toGood
  have hov := btw_eq hf H1.out.2.1 H1.out.2.2.1 lo hi
  obtain ⟨NN, hNN⟩ : ∃ NN, (fromL lo root).length = NN := ⟨_, rfl⟩
  have hNl : NN ≤ t.ks.length := by
    rw [← hNN, show fromL lo root = _ from ovr_eqs hf H1.out.2.2.1 (skF (L lo)) (kpF (L lo)) (hskF _)]
    refine Nat.le_trans (List.length_filter_le _ _) ?_
    rw [List.length_zip]
    omega
  have hNs : NN < 10000000000 := by have := H1.out.2.2.2.2.1; have := HN.out; omega
  obtain ⟨i0, hi0, hz0, hz1, hz2⟩ := info_parts info35
  have hml : 10000000000 ≤ maxLen := by decide
  refine wpIn_rangeFuncO rfl (by decide) (gf := 81) (lb := #[ptr bt, ptr bl, ptr bh]) rfl trivial (enters_of Try.func81 (by kernel_rfl) rfl)
    (betweenSeq w2 8 NN w2.heap.size (fun k => k = w1.heap.size + 1) w1 (Kept.of hB0) (by omega) (Nat.le_refl _) (fun k hk e => by omega) (fun k hk e => by omega) tb root ht bt bl bh lo hi h1 h2 h3 (Nat.le_of_eq hNN))
    (fun h k => h.trans k) (fun W o o' h hc => KpT.putObj W _ o o' (by omega) h hc) (Below.refl _ _) (fun _ => rfl)
    (fun pre W => (∃ v, Boxed W (w1.heap.size + 1) 22 v ∧ W.ownsRow w2.heap.size 35 2 v pre.length (rowv pre)) ∧ W.heap[w1.heap.size]? = some (.cells #[.slice A0 n0 c0, .slice A1 n1 c1, .slice A2 n2 c2, .slice A3 n3 c3, .slice A4 n4 c4] 28 (0, 0)) ∧ Below w1.heap.size w1 W ∧ w2.heap.size ≤ W.heap.size)
    (fun _ _ _ => False) ?hI (fun _ _ _ _ _ hs _ _ => hs) ⟨⟨_, bG, World.ownsRow_nil _ _ _ _⟩, bM, hB0, Nat.le_refl _⟩ (fun (x : ByteArray × Int) a' (Z : World) => a' = { tmps := #[.slice A l.length c, .string lo, .string hi, undef, undef, undef, .bool false, .pointer (some ⟨tb, 0, none⟩), .pointer (some ⟨w1.heap.size, 0, none⟩), .pointer (some ⟨w1.heap.size + 1, 0, none⟩), .func (.func 81) #[] #[.pointer (some ⟨bt, 0, none⟩), .pointer (some ⟨bl, 0, none⟩), .pointer (some ⟨bh, 0, none⟩)], .string x.1, .int .i64 x.2, .bool true, .bool false, .tuple #[.pointer (some ⟨tb, 0, none⟩), .agg #[.slice A0 n0 c0, .slice A1 n1 c1, .slice A2 n2 c2, .slice A3 n3 c3, .slice A4 n4 c4]], .slice A l.length c, .tuple #[.pointer (some ⟨tb, 0, none⟩), .agg #[.slice A0 n0 c0, .slice A1 n1 c1, .slice A2 n2 c2, .slice A3 n3 c3, .slice A4 n4 c4]], .pointer (some ⟨tb, 0, none⟩), .agg #[.slice A0 n0 c0, .slice A1 n1 c1, .slice A2 n2 c2, .slice A3 n3 c3, .slice A4 n4 c4], .pointer (some ⟨tb, 0, none⟩), .bool false, .pointer (some ⟨tb, 0, none⟩), .string lo, .string hi, .func (.func 81) #[] #[.pointer (some ⟨bt, 0, none⟩), .pointer (some ⟨bl, 0, none⟩), .pointer (some ⟨bh, 0, none⟩)], .func (.func 81) #[] #[.pointer (some ⟨bt, 0, none⟩), .pointer (some ⟨bl, 0, none⟩), .pointer (some ⟨bh, 0, none⟩)], .bool false, .func (.func 81) #[] #[.pointer (some ⟨bt, 0, none⟩), .pointer (some ⟨bl, 0, none⟩), .pointer (some ⟨bh, 0, none⟩)], .string x.1, .int .i64 x.2, undef, undef, undef, undef, undef, undef, undef, undef, undef, undef, undef, undef, undef], defers := [] }) (fun x a' => ownT_pure _ (fun _ => a' = _)) ?assign ?body ?done ?stop
  case hI => exact OwnT.and (fun s X Y row hs hg hr => (ownT_all (β := Unit) (B := w2.heap.size) (fun v => OwnT.and (ownT_old (w1.heap.size + 1) (fun _ => .cells #[v] 22 (0, 0)) (by omega)) (ownT_row w2.heap.size 35 2 (by decide) v s.length (rowv s)))) () X Y row hs hg hr) (OwnT.and (ownT_old _ _ (by omega)) (OwnT.and (ownT_below (Nat.le_refl _) (by omega)) (ownT_size _)))
  case assign =>
    intro l' m' pre x Wa K hI hok hK
    gi_wp2
    exact hK _ _ (KeepsU.refl _ _) (KpT.of (Below.refl _ _)) hI rfl
  case body =>
    rintro l' m' pre x a' W hl' hr0 hszW ⟨⟨v, hv, hrow⟩, hbm, hB, hW⟩ rfl hlt hok
    have hc := hv.cell
    gi_wp2_with (gi_at_builtin; refine wpListIn_append_own _ rfl _ _ 22 rfl w2.heap.size 35 i0 (.agg #[.string ⟨#[]⟩, .int .i64 0]) 2 24 Try.underlying22 hi0 hz0 hz1 hz2 rfl (by decide) _ _ _ rfl (hrow.alloc _) ⟨W.heap.size, 0, none⟩ 1 1 [.string x.1, .int .i64 x.2] rfl rfl (cell_two_new _ _ _ _) (by simp [Value.oneCell']) (by omega) (by omega) (by simp; omega) ?_; intro v' w1' hown' hgrow _; obtain ⟨g', cap', rfl⟩ := ownsRow_succ hown'; obtain ⟨hv1, hv2, hr2, hk2, hb2, hkp, hlow⟩ := appended2 (n₀ := w1.heap.size) (M := fun k => k = w1.heap.size + 1) hv (by decide) (by decide) (by decide) hrow hW (by omega) (by omega) rfl hown' hgrow; have hku := appendedU (B' := w2.heap.size) (by unfold Quiet; decide) (by omega) hv hrow hown' hgrow; have hkt := appendedT (n₁ := w2.heap.size) (M := fun k => k = w1.heap.size + 1) (by unfold Quiet; decide) (by unfold Quiet; decide) rfl hv hrow hown' hgrow; have hc1 := hv1.cell; have hf1 := hv1.frozen)
    exact ⟨hku, hkt, ⟨_, hv2, by rw [List.length_append, rowv_snoc]; exact hr2⟩, (hlow _ (by omega) (by omega)).trans hbm, hB.trans hb2, Nat.le_trans hW hb2.size⟩
  case done =>
    rintro D ys W hD e9 ⟨⟨v, hv, hrow⟩, hbm, hB, hW⟩ hK
    obtain ⟨Ag, cg, rfl, hg1, hg2⟩ := own_got hrow
    have hgot : GoAt W (.slice Ag (ys.map mkE).length cg) (atPl t (plc t.ks (fun k => N.kpB (L lo) (L hi) (L k)))) := by
      rw [← got_eq t H1.out.2.1, ← hov, ← e9]
      exact ⟨Ag, cg, rfl, hg1, hg2⟩
    obtain ⟨ng, eng⟩ : ∃ ng, (ys.map mkE).length = ng := ⟨_, rfl⟩
    rw [eng] at hgot hv
    have hl8 : t.ks.length < 100000000000 := by have := H1.out.2.2.2.2.1; have := HN.out; omega
    have hrt := H1.out.2.2.2.1.below hB
    have q1 := Aside0.mk (fun W1 (h : Below W.heap.size W W1) => show CallsIn Fence.wide 8 Try.prog 30 _ W1 _ from callsIn_wide.2 (betweenRtC W1 t H1.out.2.1 hl8 _ _ _ _ _ (hrt.below h) lo hi))
    have q2 := Aside0.mk (fun W1 (h : Below W.heap.size W W1) pv (hp : PlAt W1 pv (plc t.ks (fun k => N.kpB (L lo) (L hi) (L k)))) => show CallsIn Fence.wide 8 Try.prog 23 _ W1 _ from callsIn_wide.2 (theseC W1 t H1.out.2.1 _ _ _ _ _ (hrt.below h) (plc t.ks (fun k => N.kpB (L lo) (L hi) (L k))) (fun i hi => plc_mem hi) (by have := plc_len t.ks (fun k => N.kpB (L lo) (L hi) (L k)); omega) _ (hgot.below h) pv hp))
    have g0 := hv.cell
    have m0 : W.cell? ⟨w1.heap.size, 0, none⟩ = some (.slice A0 n0 c0) := by rw [blk_cell hbm]; rfl
    have m1 : W.cell? ⟨w1.heap.size, 1, none⟩ = some (.slice A1 n1 c1) := by rw [blk_cell hbm]; rfl
    have m2 : W.cell? ⟨w1.heap.size, 2, none⟩ = some (.slice A2 n2 c2) := by rw [blk_cell hbm]; rfl
    have m3 : W.cell? ⟨w1.heap.size, 3, none⟩ = some (.slice A3 n3 c3) := by rw [blk_cell hbm]; rfl
    have m4 : W.cell? ⟨w1.heap.size, 4, none⟩ = some (.slice A4 n4 c4) := by rw [blk_cell hbm]; rfl
    have HBn := Aside0.mk (below_drewA (Below.refl W.heap.size W))
    have HEND := Aside0.mk (And.intro hD (And.intro hK (And.intro hB hW)))
    clear hD hK hB hW hrt hgot hl8 hv hbm hg1 hg2 hrow eng hov hf ht hB0 bM bG h4 h3 h2 h1 hz2 hz1 hz0 hi0
    gi_wp2_with fail
    first | (gi_region_with (first
      | (refine ⟨trivial, ?_⟩; gi_at_call 30; refine (q1.out _ HBn.out).mono ?_; rintro e W1 ⟨Ap, np, cp, rfl, hp, B1⟩; have d0 := (Kept.of B1).cell g0; have x0 := (Kept.of B1).cell m0; have x1 := (Kept.of B1).cell m1; have x2 := (Kept.of B1).cell m2; have x3 := (Kept.of B1).cell m3; have x4 := (Kept.of B1).cell m4; have HP := Aside0.mk hp; have n0_ := Aside0.mk (belowAt HBn.out B1); clear hp HBn; have HBn := n0_; clear n0_ B1)
      | (refine ⟨trivial, ?_⟩; gi_at_call 23; refine (q2.out _ HBn.out _ HP.out).mono ?_; rintro e W2 ⟨rfl, B2⟩; have n0_ := Aside0.mk (belowAt HBn.out B2); clear HBn; have HBn := n0_; clear n0_ B2))) | fail
    all_goals (
      gi_wp2_with fail
      have hK3 := (HBn.out.block D (Array.getElem?_eq_some_iff.1 HEND.out.2.1).1).trans HEND.out.2.1
      refine ⟨by simp, .inl ⟨_, _, rfl, run_takeDeferred hK3, ?_⟩⟩
      exact ⟨_, results_tmp rfl _ _ _, rfl, (belowAt (belowAt (belowAt HB0.out H1.out.2.2.2.2.2) HEND.out.2.2.1) HBn.out).trans (belowK_b (w := w2) (by have h1 := HB0.out.size; have h2 := H1.out.2.2.2.2.2.size; omega) _ D _ _ HEND.out.1 hK3 rfl rfl)⟩)
  case stop =>
    rintro D cd pre W _ _ h _
    exact h.elim
end Go.Proofs.Ytjhgknagmiekeaa.V
set_option linter.unusedVariables false
set_option linter.unusedSimpArgs false
namespace Go.Proofs.Ytjhgknagmiekeaa.R
open Go.ChangeShapes Go.WideShapes Go.Deep Go.RowKit
open Go.Proofs.YtjhgknagmiekeaaW.PrintWords Go.Proofs.Ytjhgknagmiekeaa.K
section
variable {H : Type} {enc : TypeId × Value → H} {P : Program} {w : World} {base : Nat} {spare : Nat → Bool} {held : Bool}
theorem open_slice_fields {t e : TypeId} {fs : Array Field} {fuel : Nat} {cs : List Value} {x : DataW H × List MemPlace} (ht : P.underlying t = some (.slice e)) (he : P.underlying e = some (.struct fs))
    (hone : oneCellFields P fs = true) (hC : P.cellsOf e = fs.size) (h : DataW.trod enc P w base spare held fuel t cs = some x) :
    (cs = [.slice none 0 0] ∧ x = (.nil, [])) ∨
    ∃ (a : Addr) (len cap m : Nat) (D : Nat → DataW H) (Pl : Nat → List MemPlace), cs = [.slice (some a) len cap] ∧ base ≤ a.block ∧ len ≤ cap ∧ cap ≤ maxLen ∧ m = (if spare a.block then cap else len) ∧
      x = (.slice ((List.range len).map D) ((List.range (m - len)).map fun j => D (len + j)), MemPlace.row a (m * fs.size) ++ (List.range m).flatMap Pl) ∧
      ∀ i, i < m → ∃ (ys : List (DataW H × List MemPlace)) (n : Nat), D i = .agg (ys.map (·.1)) ∧ Pl i = ys.flatMap (·.2) ∧ ys.length = fs.size ∧
        ∀ (j : Nat) (f : Field), fs[j]? = some f → ∃ (v : Value) (y : DataW H × List MemPlace), w.cell? (a.add (i * fs.size + j)) = some v ∧ ys[j]? = some y ∧ DataW.trod enc P w base spare held n f.type [v] = some y := by
  rcases open_slice ht h with h0 | ⟨a, len, cap, m, n, D, Pl, hcs, hb, hl, hm, hmm, hx, hi⟩
  · exact .inl h0
  · refine .inr ⟨a, len, cap, m, D, Pl, hcs, hb, hl, hm, hmm, by rw [hC] at hx; exact hx, fun i him => ?_⟩
    obtain ⟨cs', hc, ht'⟩ := hi i him
    rw [hC] at hc
    obtain ⟨ys, n', hn', hy, hlen, hyl, hf⟩ := DataW.trod_struct he ht'
    obtain ⟨_, hcl, hat⟩ := World.cells?_some hc
    simp only [Prod.mk.injEq] at hy
    refine ⟨ys, n', hy.1, hy.2, hyl, fun j f hj => ?_⟩
    obtain ⟨ho, hk⟩ := hone_of hone j f hj
    have hjl : j < fs.size := (Array.getElem?_eq_some_iff.1 hj).1
    have hcell := hat j hjl
    have hv : cs'[j]? = some (cs'[j]'(by omega)) := List.getElem?_eq_getElem (by omega)
    have h1 := hf j f hj
    rw [ho, hk] at h1
    have hone' : (cs'.drop j).take 1 = [cs'[j]'(by omega)] := by
      rw [List.drop_eq_getElem_cons (by omega)]
      rfl
    rw [hone'] at h1
    have hys : ys[j]? = some (ys[j]'(by omega)) := List.getElem?_eq_getElem (by omega)
    refine ⟨_, _, ?_, hys, h1.trans hys⟩
    rw [← Go.Deep.add_add, hcell, hv]
end
def dE {H : Type} (p : S35) : DataW H := .agg [.lit (.string p.f0.data.toList), .lit (.int .i64 p.f1)]
theorem open_entries {H : Type} {enc : TypeId × Value → H} {W : World} {base : Nat} {spare : Nat → Bool} {held : Bool} {a : Option Addr} {len cap : Nat} {d : DataW H} {ps : List MemPlace}
    (h : DataW.Trod enc Try.prog W base spare held 22 (.slice a len cap) d ps) :
    ∃ l : List S35, len = l.length ∧ l.length ≤ cap ∧ Kd.C k35 W a l.length l ∧ ((d = .nil ∧ l = []) ∨ ∃ sp, d = .slice (l.map dE) sp) := by
  obtain ⟨fuel, hf⟩ := h
  rcases open_slice_fields (fs := #[_, _]) Try.underlying22 Try.underlying35 (by kernel_rfl) (by kernel_rfl) hf with ⟨hcs, hx⟩ | ⟨ad, len', cap', m, D, Pl, hcs, _, hl, hm, hmm, hx, hi⟩
  · simp [Value.cells] at hcs
    obtain ⟨rfl, rfl, rfl⟩ := hcs
    obtain ⟨rfl, _⟩ := Prod.mk.inj hx
    exact ⟨[], rfl, by simp, Kd.C_nil k35 W, .inl ⟨rfl, rfl⟩⟩
  · simp [Value.cells] at hcs
    obtain ⟨rfl, rfl, rfl⟩ := hcs
    obtain ⟨hx, _⟩ := Prod.mk.inj hx
    subst hx
    have hlm : len ≤ m := by rw [hmm]; split; exact hl; exact Nat.le_refl _
    have each : ∀ i : Nat, ∃ p : S35, i < len → D i = dE p ∧ W.cell? (ad.add (i * 2)) = some (.string p.f0) ∧ W.cell? (ad.add (i * 2 + 1)) = some (.int .i64 p.f1) := by
      intro i
      by_cases hil : i < len
      · obtain ⟨ys, n, hD, _, hyl, hj⟩ := hi i (by omega)
        obtain ⟨v0, y0, c0, e0, t0⟩ := hj 0 _ rfl
        obtain ⟨v1, y1, c1, e1, t1⟩ := hj 1 _ rfl
        obtain ⟨s0, q0, r0, w0⟩ := DataW.trod_string Try.underlying9 t0
        obtain ⟨n1, q1, r1, w1⟩ := DataW.trod_int Try.underlying3 t1
        simp only [List.cons.injEq, and_true] at q0 q1
        subst q0 q1 r0 r1
        refine ⟨⟨s0, n1⟩, fun _ => ⟨?_, c0, c1⟩⟩
        have hys : ys = [(.lit (.string s0.data.toList), []), (.lit (.int .i64 n1), [])] := by
          match ys, hyl, e0, e1 with
          | [a, b], _, e0, e1 => simp at e0 e1; rw [e0, e1]
        rw [hD, hys]
        rfl
      · exact ⟨⟨⟨#[]⟩, 0⟩, fun h => absurd h hil⟩
    obtain ⟨g, hg⟩ := Classical.axiomOfChoice each
    refine ⟨(List.range len).map g, by simp, by simpa using hl, ?_, .inr ⟨(List.range (m - len)).map fun j => D (len + j), ?_⟩⟩
    · have hlen : ((List.range len).map g).length = len := by simp
      rw [hlen]
      refine ⟨hlen, by unfold maxLen at hm; omega, fun _ => ⟨ad, rfl, fun j p hp => ?_⟩⟩
      have hj : j < len := by have := (List.getElem?_eq_some_iff.1 hp).1; rw [hlen] at this; exact this
      have hpe : p = g j := by
        rw [List.getElem?_map, List.getElem?_range hj] at hp
        simpa using hp.symm
      subst hpe
      obtain ⟨_, c0, c1⟩ := hg j hj
      refine ⟨_, rfl, k35_mk W (g j), fun i u hu => ?_⟩
      match i, hu with
      | 0, hu => simp at hu; subst hu; exact c0
      | 1, hu => simp at hu; subst hu; exact c1
    · congr 1
      rw [List.map_map]
      apply List.map_congr_left
      intro j hj
      exact (hg j (List.mem_range.1 hj)).1
def wt : List S35 → Nat
  | [] => 0
  | p :: ps => p.f0.size + 1 + wt ps
theorem wt_bulk {H : Type} (l : List S35) : wt l ≤ Rows.uptoBulkAll (l.map (dE (H := H))) := by
  induction l with
  | nil => exact Nat.zero_le _
  | cons p ps ih =>
    have e : p.f0.data.toList.length = p.f0.size := T.L_len _
    simp only [List.map_cons, Rows.uptoBulkAll, wt, dE, Rows.uptoBulk, e]
    omega
theorem wt_of {H : Type} {d : DataW H} {l : List S35} (h : (d = .nil ∧ l = []) ∨ ∃ sp, d = .slice (l.map dE) sp) : wt l ≤ Rows.uptoBulk d := by
  rcases h with ⟨rfl, rfl⟩ | ⟨sp, rfl⟩
  · exact Nat.zero_le _
  · have := wt_bulk (H := H) l
    simp only [Rows.uptoBulk]
    omega
theorem wt_len : ∀ (l : List S35), l.length ≤ wt l
  | [] => Nat.zero_le _
  | p :: ps => by have := wt_len ps; simp only [List.length_cons, wt]; omega
theorem wt_mem : ∀ (l : List S35) (p : S35), p ∈ l → p.f0.size ≤ wt l
  | q :: l, p, h => by
    simp only [wt]
    rcases List.mem_cons.1 h with e | e
    · rw [e]; omega
    · have := wt_mem l p e; omega
end Go.Proofs.Ytjhgknagmiekeaa.R
