/- joined: Q3 S1 -/
import Derived.Test.YtjhgknagmiekeaaJX4
import Derived.Test.YtjhgknagmiekeaaJX17
import Derived.Test.YtjhgknagmiekeaaJX18
import Derived.Test.YtjhgknagmiekeaaJX15
set_option linter.unusedVariables false
set_option linter.unusedSimpArgs false
namespace Go.Proofs.Ytjhgknagmiekeaa.N
open Go.RowKit Go.Lib Go.Proofs
open Go.Proofs.Ytjhgknagmiekeaa.K Go.Proofs.YtjhgknagmiekeaaW.PrintWords Go.Proofs.YtjhgknagmiekeaaW.PrintLast
open Go.Proofs.Ytjhgknagmiekeaa.T (L Nd Fine IntVals valT findT nodeT longN reachN toldV)
def LongR (ks : List ByteArray) (a : ByteArray) (r : Int) : Prop :=
  (∃ n j : Nat, r = (n : Int) ∧ n < ks.length ∧ j ≤ a.size ∧ gd ks n = a.extract 0 j ∧ ∀ j', j < j' → j' ≤ a.size → a.extract 0 j' ∉ ks) ∨ (r = -1 ∧ ∀ j, j ≤ a.size → a.extract 0 j ∉ ks)
theorem long_loop (ks : List ByteArray) (vs ls : List Int) (ps : List ByteArray) (ms : List Int) (a : ByteArray) (ha : a.size < 4611686018427387904) (hlen : ks.length < 4611686018427387904) (hs : ∀ k ∈ ks, k.size < 4611686018427387904) (hr : Rise ks) : ∀ j : Nat, j ≤ a.size → (∀ j', j < j' → j' ≤ a.size → a.extract 0 j' ∉ ks) →
    ∃ r, Ev (fun k => musterref03_Longest.l0 k a (j : Int) ks vs ls ps ms) r ∧ LongR ks a r := by
  intro j
  induction j with
  | zero =>
    intro h1 h2
    obtain ⟨n, b, f1, f2, f3, f4⟩ := find_ex ks (a.extract 0 0) hlen hs
    obtain ⟨hc, hb⟩ := f4 hr
    cases b with
    | true =>
      obtain ⟨g1, g2⟩ := f3 rfl
      refine ⟨(n : Int), Ev.step (f := fun k => (musterref03_Find.f k ks (a.extract 0 0)).bind fun t => if t.2 = true then some t.1 else musterref03_Longest.l0 k a (-1) ks vs ls ps ms) (fun k => ?_) (Ev.bind f2 (Ev.now _)), .inl ⟨n, 0, rfl, g1, h1, g2, h2⟩⟩
      simp only [musterref03_Longest.l0]
      rw [if_pos (by omega), if_pos (by omega), if_pos (by omega), show wrap64 (((0 : Nat) : Int) - 1) = -1 from by unfold wrap64; omega, show ((0 : Nat) : Int).toNat = 0 from rfl]
    | false =>
      refine ⟨-1, Ev.step (f := fun k => (musterref03_Find.f k ks (a.extract 0 0)).bind fun t => if t.2 = true then some t.1 else musterref03_Longest.l0 k a (-1) ks vs ls ps ms) (fun k => ?_) (Ev.bind f2 ?_), .inr ⟨rfl, fun j' h3 h4 => ?_⟩⟩
      · simp only [musterref03_Longest.l0]
        rw [if_pos (by omega), if_pos (by omega), if_pos (by omega), show wrap64 (((0 : Nat) : Int) - 1) = -1 from by unfold wrap64; omega, show ((0 : Nat) : Int).toNat = 0 from rfl]
      · refine Ev.step (f := fun k => some (-1)) (fun k => ?_) (Ev.now _)
        simp only [musterref03_Longest.l0]
        rfl
      · by_cases h5 : j' = 0
        · subst h5; have := hb.2 h4; cases this
        · exact h2 j' (by omega) h3 h4
  | succ j ih =>
    intro h1 h2
    obtain ⟨n, b, f1, f2, f3, f4⟩ := find_ex ks (a.extract 0 (j + 1)) hlen hs
    obtain ⟨hc, hb⟩ := f4 hr
    have hstep : ∀ k, musterref03_Longest.l0 (k + 1) a ((j + 1 : Nat) : Int) ks vs ls ps ms = (musterref03_Find.f k ks (a.extract 0 (j + 1))).bind fun t => if t.2 = true then some t.1 else musterref03_Longest.l0 k a (j : Int) ks vs ls ps ms := fun k => by
      simp only [musterref03_Longest.l0]
      rw [if_pos (by omega), if_pos (by omega), if_pos (by omega), show wrap64 (((j + 1 : Nat) : Int) - 1) = (j : Int) from by unfold wrap64; omega, Int.toNat_natCast]
    cases b with
    | true =>
      obtain ⟨g1, g2⟩ := f3 rfl
      exact ⟨(n : Int), Ev.step hstep (Ev.bind f2 (Ev.now _)), .inl ⟨n, j + 1, rfl, g1, h1, g2, h2⟩⟩
    | false =>
      obtain ⟨r, hr1, hr2⟩ := ih (by omega) (fun j' h3 h4 h5 => by
        by_cases h6 : j' = j + 1
        · subst h6; have := hb.2 h5; cases this
        · exact h2 j' (by omega) h4 h5)
      exact ⟨r, Ev.step hstep (Ev.bind f2 hr1), hr2⟩
def ReachR (ps : List ByteArray) (a : ByteArray) (r : Int) : Prop :=
  ∃ n j : Nat, r = (n : Int) ∧ n < ps.length ∧ j ≤ a.size ∧ gd ps n = a.extract 0 j ∧ ∀ j', j < j' → j' ≤ a.size → a.extract 0 j' ∉ ps
theorem reach_loop (ks : List ByteArray) (vs ls : List Int) (ps : List ByteArray) (ms : List Int) (a : ByteArray) (ha : a.size < 4611686018427387904) (hlen : ps.length < 4611686018427387904) (hs : ∀ k ∈ ps, k.size < 4611686018427387904) (hr : Rise ps) (h0 : 0 < ps.length) (h9 : gd ps 0 = ⟨#[]⟩) : ∀ j : Nat, j ≤ a.size → (∀ j', j < j' → j' ≤ a.size → a.extract 0 j' ∉ ps) →
    ∃ r, Ev (fun k => musterref03_Reach.l0 k a (j : Int) ks vs ls ps ms) r ∧ ReachR ps a r := by
  intro j
  induction j with
  | zero =>
    intro h1 h2
    refine ⟨0, Ev.step (f := fun k => some 0) (fun k => ?_) (Ev.now _), 0, 0, rfl, h0, h1, ?_, h2⟩
    · simp only [musterref03_Reach.l0]
      rfl
    · rw [h9]
      exact T.L_inj (by rw [T.L_head, List.take_zero])
  | succ j ih =>
    intro h1 h2
    obtain ⟨n, b, f1, f2, f3, f4⟩ := find_ex ps (a.extract 0 (j + 1)) hlen hs
    obtain ⟨hc, hb⟩ := f4 hr
    have hstep : ∀ k, musterref03_Reach.l0 (k + 1) a ((j + 1 : Nat) : Int) ks vs ls ps ms = (musterref03_Find.f k ps (a.extract 0 (j + 1))).bind fun t => if t.2 = true then some t.1 else musterref03_Reach.l0 k a (j : Int) ks vs ls ps ms := fun k => by
      simp only [musterref03_Reach.l0]
      rw [if_pos (by omega), if_pos (by omega), if_pos (by omega), show wrap64 (((j + 1 : Nat) : Int) - 1) = (j : Int) from by unfold wrap64; omega, Int.toNat_natCast]
    cases b with
    | true =>
      obtain ⟨g1, g2⟩ := f3 rfl
      exact ⟨(n : Int), Ev.step hstep (Ev.bind f2 (Ev.now _)), n, j + 1, rfl, g1, h1, g2, h2⟩
    | false =>
      obtain ⟨r, hr1, hr2⟩ := ih (by omega) (fun j' h3 h4 h5 => by
        by_cases h6 : j' = j + 1
        · subst h6; have := hb.2 h5; cases this
        · exact h2 j' (by omega) h4 h5)
      exact ⟨r, Ev.step hstep (Ev.bind f2 hr1), hr2⟩
theorem head_path {t : Rt} (h : RokP t) : 0 < t.ps.length ∧ gd t.ps 0 = ⟨#[]⟩ := by
  have hm : (⟨#[]⟩ : ByteArray) ∈ t.ps := (h.pmem _).2 (.inl rfl)
  have hl := List.length_pos_of_mem hm
  refine ⟨hl, ?_⟩
  obtain ⟨j, hj, e⟩ := List.getElem_of_mem hm
  by_cases h0 : j = 0
  · subst h0; rw [gd_get hj, e]
  · have h1 := Rise.lt (keys := t.ps) h.prise (i := 0) (j := j) (by omega) hj
    rw [gd_get hj, e] at h1
    exact absurd h1 (by show ¬ _ < []; exact List.not_lt_nil _)
theorem longRtE (t : Rt) (h : RokP t) (hl : t.ks.length < 100000000000) (a : ByteArray) (ha : a.size < 4611686018427387904) : ∃ r : Int, LongR t.ks a r ∧ ∀ (w : World) (v0 v1 v2 v3 v4 : Value), RtAt w t v0 v1 v2 v3 v4 →
    Calls Try.prog 102 #[.agg #[v0, v1, v2, v3, v4], .string a] w fun e w' => e = .returned (.int .i64 r) ∧ Below w.heap.size w w' := by
  obtain ⟨r, h1, h2⟩ := long_loop t.ks t.vs t.ls t.ps t.ms a ha (by omega) h.sk h.rise a.size (Nat.le_refl _) (fun j' h3 h4 => by omega)
  obtain ⟨k, hk⟩ := h1.rounds
  refine ⟨r, h2, fun w v0 v1 v2 v3 v4 hm => ?_⟩
  obtain ⟨⟨A0, c0, rfl, p0, q0⟩, ⟨A1, c1, rfl, p1, q1⟩, ⟨A2, c2, rfl, p2, q2⟩, ⟨A3, c3, rfl, p3, q3⟩, ⟨A4, c4, rfl, p4, q4⟩⟩ := hm
  exact musterref03_Longest.calls k A0 c0 t.ks A1 c1 t.vs A2 c2 t.ls A3 c3 t.ps A4 c4 t.ms a _ w q0 p0 q1 p1 q2 p2 q3 p3 q4 p4 hk
theorem reachRtE (t : Rt) (h : RokP t) (hl : t.ps.length < 1000000000000) (a : ByteArray) (ha : a.size < 4611686018427387904) : ∃ r : Int, ReachR t.ps a r ∧ ∀ (w : World) (v0 v1 v2 v3 v4 : Value), RtAt w t v0 v1 v2 v3 v4 →
    Calls Try.prog 63 #[.agg #[v0, v1, v2, v3, v4], .string a] w fun e w' => e = .returned (.int .i64 r) ∧ Below w.heap.size w w' := by
  obtain ⟨g1, g2⟩ := head_path h
  obtain ⟨r, h1, h2⟩ := reach_loop t.ks t.vs t.ls t.ps t.ms a ha (by omega) h.sp h.prise g1 g2 a.size (Nat.le_refl _) (fun j' h3 h4 => by omega)
  obtain ⟨k, hk⟩ := h1.rounds
  refine ⟨r, h2, fun w v0 v1 v2 v3 v4 hm => ?_⟩
  obtain ⟨⟨A0, c0, rfl, p0, q0⟩, ⟨A1, c1, rfl, p1, q1⟩, ⟨A2, c2, rfl, p2, q2⟩, ⟨A3, c3, rfl, p3, q3⟩, ⟨A4, c4, rfl, p4, q4⟩⟩ := hm
  exact musterref03_Reach.calls k A0 c0 t.ks A1 c1 t.vs A2 c2 t.ls A3 c3 t.ps A4 c4 t.ms a _ w q0 p0 q1 p1 q2 p2 q3 p3 q4 p4 hk
theorem key_take {root : Nd} {t : Rt} (hf : Fine root) (hv : IntVals root) (ht : Rok t) (h : Agree root t) (a : ByteArray) (j : Nat) : findT root ((L a).take j) ≠ none ↔ a.extract 0 j ∈ t.ks := by
  rw [key_iff hf.toGood hv ht h, ← T.L_head]
  constructor
  · rintro ⟨i, hi, e⟩
    rw [T.L_inj e]
    exact gd_mem hi
  · intro hm
    obtain ⟨i, hi, e⟩ := List.getElem_of_mem hm
    exact ⟨i, hi, by rw [gd_get hi, e]⟩
theorem path_take {root : Nd} {t : Rt} (hf : Fine root) (hv : IntVals root) (ht : RokP t) (h : Agree root t) (a : ByteArray) (j : Nat) : nodeT root ((L a).take j) ≠ none ↔ a.extract 0 j ∈ t.ps := by
  rw [← path_iff hf hv ht.toRok h, ← T.L_head]
  exact (ht.pmem _).symm
theorem long_agree {root : Nd} {t : Rt} (hf : Fine root) (hv : IntVals root) (ht : Rok t) (h : Agree root t) (a : ByteArray) {r : Int} (hr : LongR t.ks a r) :
    (∃ n : Nat, r = (n : Int) ∧ n < t.ks.length ∧ toldV (longN root a) = .tuple #[.string (gd t.ks n), .int .i64 (rd t.vs n), .bool true]) ∨ (r = -1 ∧ toldV (longN root a) = .tuple #[.string ⟨#[]⟩, .int .i64 0, .bool false]) := by
  have hk := key_take hf hv ht h a
  have hl := T.long_eq hf.toGood a
  have hsz : (L a).length = a.size := T.L_len a
  rcases hr with ⟨n, j, rfl, hn, hj, hg, hmax⟩ | ⟨rfl, hno⟩
  · refine .inl ⟨n, rfl, hn, ?_⟩
    have hin : findT root ((L a).take j) ≠ none := (hk j).2 (by rw [← hg]; exact gd_mem hn)
    rcases hl with ⟨j2, g1, g2, g3, g4⟩ | ⟨g1, g2⟩
    · have hjj : j2 = j := by
        rcases Nat.lt_trichotomy j2 j with h5 | h5 | h5
        · exact absurd (g4 j h5 (by omega)) hin
        · exact h5
        · exact absurd ((hk j2).1 (by rw [g2]; exact g3)) (hmax j2 h5 (by omega))
      subst hjj
      obtain ⟨l, el⟩ := Option.ne_none_iff_exists'.1 g3
      rw [el] at g2 ⊢
      have e1 : L l.key = L (gd t.ks n) := by rw [hf.keys _ _ g2, hg, T.L_head]
      have e2 := agree_in hf.toGood hv ht h hn
      rw [← e1, hf.keys _ _ g2] at e2
      unfold valT at e2
      rw [g2] at e2
      injection e2 with e2
      show Value.tuple #[.string l.key, l.val, .bool true] = _
      rw [T.L_inj e1, e2]
    · exact absurd (g2 j (by omega)) hin
  · refine .inr ⟨rfl, ?_⟩
    rcases hl with ⟨j2, g1, g2, g3, g4⟩ | ⟨g1, g2⟩
    · exact absurd ((hk j2).1 (by rw [g2]; exact g3)) (hno j2 (by omega))
    · rw [g1]; rfl
theorem reach_agree {root : Nd} {t : Rt} (hf : Fine root) (hv : IntVals root) (ht : RokP t) (h : Agree root t) (a : ByteArray) {r : Int} (hr : ReachR t.ps a r) :
    ∃ n : Nat, r = (n : Int) ∧ n < t.ps.length ∧ gd t.ps n = a.extract 0 (reachN root a) := by
  have hk := path_take hf hv ht h a
  obtain ⟨g1, g2, g3⟩ := T.reach_eq hf.toGood a
  obtain ⟨n, j, rfl, hn, hj, hg, hmax⟩ := hr
  have hin : nodeT root ((L a).take j) ≠ none := (hk j).2 (by rw [← hg]; exact gd_mem hn)
  refine ⟨n, rfl, hn, ?_⟩
  have hjj : reachN root a = j := by
    rcases Nat.lt_trichotomy (reachN root a) j with h5 | h5 | h5
    · exact absurd (g3 j h5 hj) hin
    · exact h5
    · exact absurd ((hk _).1 g2) (hmax _ h5 g1)
  rw [hg, hjj]
end Go.Proofs.Ytjhgknagmiekeaa.N
set_option linter.unusedVariables false
set_option linter.unusedSimpArgs false
namespace Go.Proofs.Ytjhgknagmiekeaa.F
open Go.RowKit Go.Lib Go.Proofs
open Go.Proofs.Ytjhgknagmiekeaa.T
def kg (P : List UInt8) : List (List UInt8) → Nat → Option (List UInt8) → List Nat
  | [], _, _ => []
  | q :: r, j, last => if P <+: q then (if ∀ c, last = some c → ¬ c <+: q then j :: kg P r (j + 1) (some q) else kg P r (j + 1) last) else []
theorem kg_skip {P c : List UInt8} : ∀ (l R : List (List UInt8)) (j : Nat), (∀ q ∈ l, P <+: q ∧ c <+: q) → kg P (l ++ R) j (some c) = kg P R (j + l.length) (some c)
  | [], R, j, _ => rfl
  | q :: r, R, j, h => by
    obtain ⟨h1, h2⟩ := h q (List.mem_cons_self)
    rw [List.cons_append, kg, if_pos h1, if_neg (fun hn => hn c rfl h2), kg_skip r R (j + 1) (fun x hx => h x (List.mem_cons_of_mem _ hx)), List.length_cons]
    congr 1
    omega
def places : Nat → List Nd → List Nat
  | _, [] => []
  | j, k :: r => j :: places (j + cntN k) r
theorem places_len : ∀ (j : Nat) (ks : List Nd), (places j ks).length = ks.length
  | _, [] => rfl
  | j, k :: r => by rw [places, List.length_cons, List.length_cons, places_len]
theorem apart_pre {p : List UInt8} {k k' : Nd} (hk : 0 < k.label.size) (hk' : 0 < k'.label.size) (h : fb k ≠ fb k') (t : List UInt8) : ¬ (p ++ L k.label) <+: (p ++ L k'.label ++ t) := by
  rw [List.append_assoc]
  intro h1
  have h2 := (List.prefix_append_right_inj p).1 h1
  refine h ?_
  have e1 : L k.label ≠ [] := L_ne hk
  have e2 : L k'.label ≠ [] := L_ne hk'
  have e3 : hd (L k.label) = hd (L k'.label ++ t) := by
    obtain ⟨s, hs⟩ := h2
    rw [← hs, hd_append e1]
  rw [hd_append e2, ← fb_hd, ← fb_hd] at e3
  exact e3
theorem kg_kids {P p : List UInt8} (hP : P <+: p) : ∀ (ks : List Nd) (R : List (List UInt8)) (j : Nat) (last : Option (List UInt8)), Oks ks → (ks.map fb).Pairwise (· < ·) → (∀ k ∈ ks, 0 < k.label.size) → (∀ q, R.head? = some q → ¬ P <+: q) → (∀ c, last = some c → ∀ k ∈ ks, ∀ t, ¬ c <+: (p ++ L k.label ++ t)) →
    kg P ((nodss p ks).map Prod.fst ++ R) j last = places j ks
  | [], R, j, last, _, _, _, hR, _ => by
    rw [nodss, places]
    cases R with
    | nil => rfl
    | cons q r => show kg P (q :: r) j last = []; rw [kg, if_neg (hR q rfl)]
  | k :: r, R, j, last, ho, hp, hl, hR, hL => by
    unfold Oks at ho
    rw [List.map_cons, List.pairwise_cons] at hp
    have hk0 : 0 < k.label.size := hl k List.mem_cons_self
    have hpk : P <+: p ++ L k.label := hP.trans (List.prefix_append _ _)
    rw [nodss, nods_eq, places, List.map_append, List.map_cons, List.append_assoc, List.cons_append, kg]
    rw [if_pos hpk, if_pos (fun c hc => by have := hL c hc k List.mem_cons_self []; rwa [List.append_nil] at this)]
    rw [kg_skip _ _ _ (fun q hq => ?_)]
    · have hlen : ((nodss (p ++ L k.label) k.kids).map Prod.fst).length = cntNs k.kids := by rw [List.length_map, nodss_len]
      rw [hlen, show j + 1 + cntNs k.kids = j + cntN k by rw [cntN_eq]; omega]
      congr 1
      refine kg_kids hP r R _ _ ho.2 hp.2 (fun x hx => hl x (List.mem_cons_of_mem _ hx)) hR (fun c hc k' hk' t => ?_)
      injection hc with hc
      subst hc
      exact apart_pre hk0 (hl k' (List.mem_cons_of_mem _ hk')) (fun e => by have := hp.1 (fb k') (List.mem_map_of_mem hk'); rw [e] at this; exact absurd this (by simp)) t
    · obtain ⟨x, hx, rfl⟩ := List.mem_map.1 hq
      have h1 : p ++ L k.label <+: x.1 := by
        have hx2 : x ∈ nods p k := by rw [nods_eq]; exact List.mem_cons_of_mem _ hx
        exact nods_pre ho.1 hx2
      exact ⟨hpk.trans h1, h1⟩
end Go.Proofs.Ytjhgknagmiekeaa.F
