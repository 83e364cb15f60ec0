/- joined: N7 N14 F5 S1 N8 -/
import Derived.Test.YtjhgknagmiekeaaJR13
import Derived.Test.YtjhgknagmiekeaaJR14
import Derived.Test.YtjhgknagmiekeaaJR4
set_option linter.unusedVariables false
set_option linter.unusedSimpArgs false
namespace Go.Proofs.Ytjhgknagmiekeaa.N
open Go.RowKit Go.Proofs.Ytjhgknagmiekeaa.K Go.Proofs.YtjhgknagmiekeaaW.PrintWords Go.Proofs.YtjhgknagmiekeaaW.PrintLast
open Go.Proofs.Ytjhgknagmiekeaa.V (valI ovr ovrs ownE ovr_eq pre skU kpU skF kpF skL)
abbrev ints (l : List Nat) : List Int := l.map (fun (i : Nat) => (i : Int))
def upto (xs : List ByteArray) (p : ByteArray → Bool) (n : Nat) : List Nat := (List.range n).filter (fun i => p (gd xs i))
theorem starts_pre (a b : ByteArray) : musterref01_Starts.f a b = some (pre (T.L a) (T.L b)) := V.pre_f a b
end Go.Proofs.Ytjhgknagmiekeaa.N
set_option linter.unusedVariables false
set_option linter.unusedSimpArgs false
namespace Go.Proofs.Ytjhgknagmiekeaa.N
open Go.RowKit Go.Proofs.Ytjhgknagmiekeaa.K Go.Proofs.YtjhgknagmiekeaaW.PrintWords Go.Proofs.YtjhgknagmiekeaaW.PrintLast
open Go.Proofs.Ytjhgknagmiekeaa.T (Nd Lf Ent All valT findT nodeT Parts IntVals mem_all all_rise Fine Tr)
open Go.Proofs.Ytjhgknagmiekeaa.V (valI ovr pre)
structure RokP (t : Rt) : Prop extends Rok t where
  prise : Rise t.ps
  pmem : ∀ x, x ∈ t.ps ↔ PathOf t.ks t.ks.length (T.L x)
inductive MkR (op : List ByteArray) (om : List Int) (a : ByteArray) : List ByteArray → Int → List Int → Int → Prop
  | nil (x : Int) : MkR op om a [] x [] x
  | keep (q : ByteArray) (P : List ByteArray) (x : Int) (n : Nat) (Mk : List Int) (y : Int) : n < op.length → gd op n = q → ¬ T.L q <+: T.L a → MkR op om a P x Mk y → MkR op om a (q :: P) x (rd om n :: Mk) y
  | fresh (q : ByteArray) (P : List ByteArray) (x : Int) (Mk : List Int) (y : Int) : (q ∈ op → T.L q <+: T.L a) → MkR op om a P (wrap64 (x + 1)) Mk y → MkR op om a (q :: P) x (x :: Mk) y
theorem MkR.len {op : List ByteArray} {om : List Int} {a : ByteArray} {P : List ByteArray} {x y : Int} {Mk : List Int} (h : MkR op om a P x Mk y) : P.length = Mk.length := by
  induction h with
  | nil => rfl
  | keep _ _ _ _ _ _ _ _ _ _ ih => simp [ih]
  | fresh _ _ _ _ _ _ _ ih => simp [ih]
theorem remade_ex2 (op : List ByteArray) (om : List Int) (K : List ByteArray) (V L : List Int) (P0 : List ByteArray) (M0 : List Int) (k0 : List ByteArray) (v0 l0 : List Int) (a : ByteArray) (nx : Int)
    (hop : op.length = om.length) (hopl : op.length < 8796093022208) (hops : Sml op) (hopr : Rise op) (hK : K.length < 1000000000000) (hKs : Sml K) :
    ∃ (P : List ByteArray) (Mk : List Int) (nx' : Int), Ev (fun k => musterref03_remade.f k k0 v0 l0 op om K V L P0 M0 a nx) (K, V, L, P, Mk, nx') ∧ MkR op om a P nx Mk nx' ∧ P.length ≤ 1 + 2 * K.length ∧ Sml P ∧ Rise P ∧ ∀ x, x ∈ P ↔ PathOf K K.length (T.L x) := by
  obtain ⟨P, p1, p2, p3, -, p5, p6⟩ := paths_ex2 K hK hKs
  have key : ∀ d i : Nat, P.length - i = d → i ≤ P.length → ∀ (mk : List Int) (x : Int), mk.length = i → ∃ (Mk : List Int) (nx' : Int), Ev (fun k => musterref03_remade.l0 k a x P (P.length : Int) (i : Int) k0 v0 l0 op om K V L P mk) (K, V, L, P, mk ++ Mk, nx') ∧ MkR op om a (P.drop i) x Mk nx' := by
    intro d
    induction d with
    | zero =>
      intro i hd hi mk x hm
      refine ⟨[], x, Ev.step (f := fun k => some (K, V, L, P, mk ++ [], x)) (fun k => ?_) (Ev.now _), ?_⟩
      · simp only [musterref03_remade.l0]
        rw [if_neg (by omega), List.append_nil]
      · rw [List.drop_eq_nil_of_le (by omega)]
        exact .nil x
    | succ d ih =>
      intro i hd hi mk x hm
      have hlt : i < P.length := by omega
      have hdr : P.drop i = gd P i :: P.drop (i + 1) := by rw [List.drop_eq_getElem_cons hlt, gd_get hlt]
      obtain ⟨n, b, f1, f2, f3, f4⟩ := find_ex op (gd P i) (by omega) hops
      have f5 := (f4 hopr).2
      cases b with
      | true =>
        have hn : n < op.length := (f3 rfl).1
        have ht := starts_pre a (gd P i)
        cases t : pre (T.L a) (T.L (gd P i)) with
        | true =>
          rw [t] at ht
          obtain ⟨Mk, nx', r1, r2⟩ := ih (i + 1) (by omega) (by omega) (mk ++ [x]) (wrap64 (x + 1)) (by simp; omega)
          rw [List.append_assoc, List.singleton_append] at r1
          refine ⟨x :: Mk, nx', Ev.step (f := fun k => (musterref03_Find.f k op (gd P i)).bind fun bt => if bt.2 = true then musterref03_remade.l0 k a (wrap64 (x + 1)) P (P.length : Int) ((i + 1 : Nat) : Int) k0 v0 l0 op om K V L P (mk ++ [x]) else none) (fun k => ?_) (Ev.bind f2 (by simpa using r1)), by rw [hdr]; exact .fresh _ _ _ _ _ (fun _ => (pre_iff _ _).1 t) r2⟩
          simp only [musterref03_remade.l0]
          rw [if_pos (by omega), if_pos (by omega), if_pos (by omega), rdOf_gd, wadd i (by omega), ht]
          cases hq : musterref03_Find.f k op (gd P i) with
          | none => rfl
          | some y =>
            have hy := ev_uniq (fun m => musterref03_Find.mono op (gd P i) m) f2 hq
            subst hy
            simp [hm, show i < 17592186044416 by omega]
        | false =>
          rw [t] at ht
          obtain ⟨Mk, nx', r1, r2⟩ := ih (i + 1) (by omega) (by omega) (mk ++ [rd om n]) x (by simp; omega)
          rw [List.append_assoc, List.singleton_append] at r1
          refine ⟨rd om n :: Mk, nx', Ev.step (f := fun k => (musterref03_Find.f k op (gd P i)).bind fun bt => if bt = ((n : Int), true) then musterref03_remade.l0 k a x P (P.length : Int) ((i + 1 : Nat) : Int) k0 v0 l0 op om K V L P (mk ++ [rd om n]) else none) (fun k => ?_) (Ev.bind f2 (by simpa using r1)), by rw [hdr]; exact .keep _ _ _ n _ _ hn (f3 rfl).2 ((pre_false _ _).1 t) r2⟩
          simp only [musterref03_remade.l0]
          rw [if_pos (by omega), if_pos (by omega), if_pos (by omega), rdOf_gd, wadd i (by omega), ht]
          cases hq : musterref03_Find.f k op (gd P i) with
          | none => rfl
          | some y =>
            have hy := ev_uniq (fun m => musterref03_Find.mono op (gd P i) m) f2 hq
            subst hy
            simp [hm, show i < 17592186044416 by omega, show n < om.length by omega]
      | false =>
        obtain ⟨Mk, nx', r1, r2⟩ := ih (i + 1) (by omega) (by omega) (mk ++ [x]) (wrap64 (x + 1)) (by simp; omega)
        rw [List.append_assoc, List.singleton_append] at r1
        refine ⟨x :: Mk, nx', Ev.step (f := fun k => (musterref03_Find.f k op (gd P i)).bind fun bt => if bt = ((n : Int), false) then musterref03_remade.l0 k a (wrap64 (x + 1)) P (P.length : Int) ((i + 1 : Nat) : Int) k0 v0 l0 op om K V L P (mk ++ [x]) else none) (fun k => ?_) (Ev.bind f2 (by simpa using r1)), by rw [hdr]; exact .fresh _ _ _ _ _ (fun h => absurd (f5.2 h) (by simp)) r2⟩
        simp only [musterref03_remade.l0]
        rw [if_pos (by omega), if_pos (by omega), if_pos (by omega), rdOf_gd, wadd i (by omega)]
        cases hq : musterref03_Find.f k op (gd P i) with
        | none => rfl
        | some y =>
          have hy := ev_uniq (fun m => musterref03_Find.mono op (gd P i) m) f2 hq
          subst hy
          simp [hm, show i < 17592186044416 by omega]
  obtain ⟨Mk, nx', q1, q2⟩ := key P.length 0 (by omega) (by omega) [] nx rfl
  exact ⟨P, Mk, nx', Ev.congr (fun k => rfl) (Ev.bind p1 q1), q2, p2, p3, p5, p6⟩
theorem delete_ex2 (t : Rt) (h : RokP t) (n : Nat) (hn : n < t.ks.length) (a : ByteArray) (nx : Int) (hl : t.ks.length < 100000000000) :
    ∃ (P : List ByteArray) (M : List Int) (nx' : Int), Ev (fun k => musterref03_remade.f k t.ks t.vs t.ls t.ps t.ms (cutAt t.ks n) (cutAt t.vs n) (cutAt t.ls n) [] [] a nx) (cutAt t.ks n, cutAt t.vs n, cutAt t.ls n, P, M, nx') ∧ RokP ⟨cutAt t.ks n, cutAt t.vs n, cutAt t.ls n, P, M⟩ ∧ MkR t.ps t.ms a P nx M nx' := by
  have e1 := cutAt_len t.ks n hn
  have e2 := cutAt_len t.vs n (by rw [h.v]; exact hn)
  have e3 := cutAt_len t.ls n (by rw [h.l]; exact hn)
  have hKs : Sml (cutAt t.ks n) := fun x hx => h.sk x ((cutAt_sub t.ks n).subset hx)
  have hp := h.p
  obtain ⟨P, M, nx', r1, r2, r3, r4, r5, r6⟩ := remade_ex2 t.ps t.ms (cutAt t.ks n) (cutAt t.vs n) (cutAt t.ls n) [] [] t.ks t.vs t.ls a nx h.m (by omega) h.sp h.prise (by omega) hKs
  exact ⟨P, M, nx', r1, ⟨⟨by show (cutAt t.vs n).length = (cutAt t.ks n).length; rw [e1, e2, h.v], by show (cutAt t.ls n).length = (cutAt t.ks n).length; rw [e1, e3, h.l], r2.len, r3, hKs, r4, rise_cut h.rise n⟩, r5, r6⟩, r2⟩
theorem key_iff {root : Nd} {t : Rt} (hg : T.Good root) (hv : IntVals root) (ht : Rok t) (h : Agree root t) (q : List UInt8) : findT root q ≠ none ↔ ∃ j, j < t.ks.length ∧ q = T.L (gd t.ks j) := by
  rw [← T.valT_ne]
  constructor
  · intro hne
    obtain ⟨x, hx⟩ : ∃ x, valT root q = some (.int .i64 x) := by
      cases hf : findT root q with
      | none => exact absurd (by unfold valT; rw [hf]; rfl) hne
      | some l =>
        obtain ⟨v, ev⟩ := hv _ _ hf
        exact ⟨v, by unfold valT; rw [hf, Option.map_some, ev]⟩
    rw [← mem_ey hg hv, show (All root).map ey = _ from h, List.mem_map] at hx
    obtain ⟨y, hy, e⟩ := hx
    obtain ⟨j, hj, ej⟩ := List.getElem_of_mem (List.of_mem_zip hy).1
    refine ⟨j, hj, ?_⟩
    rw [gd_get hj, ej]
    unfold ex at e
    exact (Prod.mk.inj e).1.symm
  · rintro ⟨j, hj, rfl⟩
    have hj2 : j < (t.ks.zip t.vs).length := by rw [List.length_zip, ht.v]; omega
    have hm : ex ((t.ks.zip t.vs)[j]) ∈ (All root).map ey := by
      rw [show (All root).map ey = _ from h]
      exact List.mem_map_of_mem (List.getElem_mem hj2)
    have := (mem_ey hg hv _ _).1 hm
    rw [List.getElem_zip] at this
    rw [gd_get hj]
    show valT root (T.L t.ks[j]) ≠ none
    dsimp only at this
    rw [this]
    simp
theorem path_iff {root : Nd} {t : Rt} (hf : Fine root) (hv : IntVals root) (ht : Rok t) (h : Agree root t) (q : List UInt8) : PathOf t.ks t.ks.length q ↔ nodeT root q ≠ none := by
  by_cases hq : q = []
  · subst hq
    rw [T.nodeT_nil]
    exact ⟨fun _ => by simp, fun _ => .inl rfl⟩
  · rw [T.node_iff q.length root q (Nat.le_refl _) hq hf.ok hf.br, key_iff hf.toGood hv ht h]
    have hk : ∀ j, j < t.ks.length → findT root (T.L (gd t.ks j)) ≠ none := fun j hj => (key_iff hf.toGood hv ht h _).2 ⟨j, hj, rfl⟩
    constructor
    · rintro (e | ⟨j, h1, h2⟩ | ⟨j, h1, h2⟩)
      · exact absurd e hq
      · exact .inl ⟨j, h1, h2⟩
      · rcases lcp_cases (T.L (gd t.ks j)) (T.L (gd t.ks (j + 1))) with e | e | ⟨a, b, s, r, e0, e1, e2⟩
        · exact .inl ⟨j, by omega, by rw [h2, e]⟩
        · exact .inl ⟨j + 1, h1, by rw [h2, e]⟩
        · refine .inr ⟨a, b, s, r, e0, ?_, ?_⟩
          · rw [h2, ← e1]; exact hk j (by omega)
          · rw [h2, ← e2]; exact hk (j + 1) h1
    · rintro (h1 | ⟨a, b, s, r, e0, e1, e2⟩)
      · exact .inr (.inl h1)
      · obtain ⟨i, hi, ei⟩ := (key_iff hf.toGood hv ht h _).1 e1
        obtain ⟨j, hj, ej⟩ := (key_iff hf.toGood hv ht h _).1 e2
        rcases Nat.lt_trichotomy i j with hij | hij | hij
        · exact .inr (.inr (fork_near ht.rise q (j - i) i j a b s r rfl hij hj e0 ei.symm ej.symm))
        · exfalso
          subst hij
          rw [← ei] at ej
          have := List.append_cancel_left ej
          injection this with h1 _
          exact e0 h1.symm
        · exact .inr (.inr (fork_near ht.rise q (i - j) j i b a r s rfl hij hi (fun e => e0 e.symm) ej.symm ei.symm))
end Go.Proofs.Ytjhgknagmiekeaa.N
set_option linter.unusedVariables false
set_option linter.unusedSimpArgs false
namespace Go.Proofs.Ytjhgknagmiekeaa.F
open Go.RowKit Go.Lib Go.Proofs
open Go.Proofs.Ytjhgknagmiekeaa.T
open Go.Proofs.Ytjhgknagmiekeaa.N (Rok RokP Agree Rise PathOf path_iff)
open Go.Proofs.YtjhgknagmiekeaaW.PrintWords hiding blk_cell Kept
abbrev Kb (root : Nd) : Nat → Bool := fun b => decide (b ∈ bls root)
theorem kn_self (root : Nd) : Kn (Kb root) root := fun b hb => decide_eq_true hb
theorem kb_new {w : World} {root : Nd} (h : NdAt w root) {b : Nat} (hb : w.heap.size ≤ b) : Kb root b = false := by
  refine decide_eq_false (fun hm => ?_)
  obtain ⟨cs, t, e⟩ := bls_cells root h hm
  have := (Array.getElem?_eq_some_iff.1 e).1
  omega
theorem top_L {root : Nd} (h : T.Good root) (r : List UInt8) : L root.label ++ r = r := by
  rw [show L root.label = [] from List.length_eq_zero_iff.1 (by rw [L_len]; exact h.top), List.nil_append]
def Anew (r1 r2 : Nd) (k : ByteArray) : Prop := ∃ e : Nat, e ≤ 1 ∧ cntF (Kb r1) r2 = onC r2 (L k) + e
theorem insF (w : World) (tb : Nat) (root : Nd) (h : Tr w tb root) (k : ByteArray) (v : Int) (hk : k.size < 4000000000000) (hs : (All root).length < 3999999999999) :
    Calls Try.prog 43 #[ptr tb, .string k, .int .i64 v] w fun e w' => ∃ tb' root', e = .returned (wasV tb' (valT root (L k))) ∧ Tr w' tb' root' ∧ (∀ r, valT root' r = if r = L k then some (.int .i64 v) else valT root r) ∧ (All root').length ≤ (All root).length + 1 ∧ Anew root root' k ∧ Below w.heap.size w w' := by
  refine (treeInsert w tb root _ v k h.at_ h.fine.ok h.fine.sm hk (by omega) (by omega)).mono ?_
  rintro e w' ⟨tb', lb, m, ns, had, old, rfl, h1, h2, h3, h4, h5, h6, hB⟩
  have hg := fine_ins h.fine k hk ⟨lb, k, .int .i64 v, m⟩ rfl ns
  have hl := len_ins h.fine.toGood k ⟨lb, k, .int .i64 v, m⟩ ns hg.toGood
  rw [find_eq h.fine.toGood] at h2
  obtain ⟨ee, he1, he2, -⟩ := ins_fresh (K := Kb root) k.size k (Nat.le_refl _) root h.fine.ok (kn_self root) ⟨lb, k, .int .i64 v, m⟩ ns (fun j => kb_new h.at_.root (h6.new j).1)
  rw [top_L h.fine.toGood] at he2
  refine ⟨tb', insN root k ⟨lb, k, .int .i64 v, m⟩ ns, ?_, ⟨?_, hg, vals_ins h.fine.toGood h.vals k _ v rfl ns⟩, valT_ins h.fine.toGood k _ ns, ?_, ⟨ee, he1, he2⟩, hB⟩
  · unfold valT
    cases e : findT root (L k) with
    | none => rw [e] at h2; cases h2; rfl
    | some l => rw [e] at h2; cases h2; rfl
  · have e : (All root).length + incr had = ((All (insN root k ⟨lb, k, .int .i64 v, m⟩ ns)).length : Int) := by
      rw [hl]
      cases e : findT root (L k) with
      | none => rw [e] at h2; cases h2; rfl
      | some l => rw [e] at h2; cases h2; rfl
    rw [← e]
    exact h1
  · have : (if findT root (L k) = none then (1 : Int) else 0) ≤ 1 := by split <;> omega
    omega
theorem delF (w : World) (tb : Nat) (root : Nd) (h : Tr w tb root) (k : ByteArray) (hk : k.size < 4000000000000) (hs : (All root).length < 3999999999999) :
    Calls Try.prog 39 #[ptr tb, .string k] w fun e w' => ∃ tb' root', e = .returned (wasV tb' (valT root (L k))) ∧ Tr w' tb' root' ∧ (∀ r, valT root' r = if r = L k then none else valT root r) ∧ (All root').length ≤ (All root).length ∧ (if valT root (L k) = none then cntF (Kb root) root' = 0 else Anew root root' k) ∧ Below w.heap.size w w' := by
  cases e : findT root (L k) with
  | none =>
    refine (treeDelete_none w tb root _ k h.at_ h.fine hk e).mono ?_
    rintro e' w' ⟨rfl, rfl⟩
    refine ⟨tb, root, by unfold valT; rw [e]; rfl, h, fun r => ?_, Nat.le_refl _, ?_, Below.refl _ _⟩
    · split
      · rename_i hr; subst hr; unfold valT; rw [e]; rfl
      · rfl
    · rw [if_pos (by unfold valT; rw [e]; rfl)]
      exact (kn_self root).zero
  | some l =>
    obtain ⟨v, hv⟩ := h.vals _ l e
    have hpos : 0 < (All root).length := by
      have := (mem_all h.fine.toGood _ l).2 e
      exact List.length_pos_of_mem this
    refine (treeDelete_some w tb root _ k l v h.at_ h.fine hk (by omega) (by omega) e hv).mono ?_
    rintro e' w' ⟨tb', m, ns, rfl, h1, h2, h3, h4, hB⟩
    obtain ⟨f1, f2, f3⟩ := fine_del h.fine k l ns h2
    have hl := len_del h.fine k l ns h2
    obtain ⟨ee, he1, he2, -, -⟩ := del_fresh (K := Kb root) k.size k (Nat.le_refl _) root m l h.fine.ok h.fine.br (kn_self root) ns (fun j => kb_new h.at_.root (h4.new j).1) h2
    rw [top_L h.fine.toGood] at he2
    refine ⟨tb', m, ?_, ⟨by rw [hl]; exact h1, f1, fun r l' e' => ?_⟩, valT_del h.fine k l ns h2, by omega, ?_, hB⟩
    · unfold valT; rw [e]; show _ = Ending.returned (.tuple #[ptr tb', l.val, .bool true]); rw [hv]
    · rw [f3] at e'
      split at e'
      · cases e'
      · exact h.vals r l' e'
    · rw [if_neg (by unfold valT; rw [e]; simp)]
      exact ⟨ee, he1, he2⟩
theorem paths_nods {root : Nd} {t : N.Rt} (hf : Fine root) (hv : IntVals root) (ht : RokP t) (h : Agree root t) : t.ps.map L = (Nods root).map Prod.fst := by
  refine sorted_ext (lt := (· < ·)) (fun a => blt_irrefl a) (fun a b c => blt_trans) _ _ ht.prise (List.pairwise_map.2 (nods_riseA hf.toGood)) (fun x => ?_)
  rw [List.mem_map, List.mem_map]
  constructor
  · rintro ⟨p, hp, rfl⟩
    have h1 := (path_iff hf hv ht.toRok h _).1 ((ht.pmem p).1 hp)
    obtain ⟨n, hn⟩ := Option.ne_none_iff_exists'.1 h1
    exact ⟨(L p, n), (mem_nodsA hf.toGood _ _).2 hn, rfl⟩
  · rintro ⟨⟨q, n⟩, hm, rfl⟩
    have h1 := (mem_nodsA hf.toGood _ _).1 hm
    have h2 : (⟨q.toArray⟩ : ByteArray) ∈ t.ps := (ht.pmem _).2 ((path_iff hf hv ht.toRok h _).2 (by show nodeT root (L ⟨q.toArray⟩) ≠ none; rw [show L (⟨q.toArray⟩ : ByteArray) = q from by simp [L], h1]; simp))
    exact ⟨_, h2, by simp [L]⟩
theorem paths_len {root : Nd} {t : N.Rt} (hf : Fine root) (hv : IntVals root) (ht : RokP t) (h : Agree root t) : t.ps.length = cntN root := by
  have := congrArg List.length (paths_nods hf hv ht h)
  rw [List.length_map, List.length_map, nods_len] at this
  exact this
end Go.Proofs.Ytjhgknagmiekeaa.F
set_option linter.unusedVariables false
set_option linter.unusedSimpArgs false
namespace Go.Proofs.Ytjhgknagmiekeaa.F
open Go.RowKit Go.Lib Go.Proofs
open Go.Proofs.Ytjhgknagmiekeaa.T
def kg (P : List UInt8) : List (List UInt8) → Nat → Option (List UInt8) → List Nat
  | [], _, _ => []
  | q :: r, j, last => if P <+: q then (if ∀ c, last = some c → ¬ c <+: q then j :: kg P r (j + 1) (some q) else kg P r (j + 1) last) else []
theorem kg_skip {P c : List UInt8} : ∀ (l R : List (List UInt8)) (j : Nat), (∀ q ∈ l, P <+: q ∧ c <+: q) → kg P (l ++ R) j (some c) = kg P R (j + l.length) (some c)
  | [], R, j, _ => rfl
  | q :: r, R, j, h => by
    obtain ⟨h1, h2⟩ := h q (List.mem_cons_self)
    rw [List.cons_append, kg, if_pos h1, if_neg (fun hn => hn c rfl h2), kg_skip r R (j + 1) (fun x hx => h x (List.mem_cons_of_mem _ hx)), List.length_cons]
    congr 1
    omega
def places : Nat → List Nd → List Nat
  | _, [] => []
  | j, k :: r => j :: places (j + cntN k) r
theorem places_len : ∀ (j : Nat) (ks : List Nd), (places j ks).length = ks.length
  | _, [] => rfl
  | j, k :: r => by rw [places, List.length_cons, List.length_cons, places_len]
theorem apart_pre {p : List UInt8} {k k' : Nd} (hk : 0 < k.label.size) (hk' : 0 < k'.label.size) (h : fb k ≠ fb k') (t : List UInt8) : ¬ (p ++ L k.label) <+: (p ++ L k'.label ++ t) := by
  rw [List.append_assoc]
  intro h1
  have h2 := (List.prefix_append_right_inj p).1 h1
  refine h ?_
  have e1 : L k.label ≠ [] := L_ne hk
  have e2 : L k'.label ≠ [] := L_ne hk'
  have e3 : hd (L k.label) = hd (L k'.label ++ t) := by
    obtain ⟨s, hs⟩ := h2
    rw [← hs, hd_append e1]
  rw [hd_append e2, ← fb_hd, ← fb_hd] at e3
  exact e3
theorem kg_kids {P p : List UInt8} (hP : P <+: p) : ∀ (ks : List Nd) (R : List (List UInt8)) (j : Nat) (last : Option (List UInt8)), Oks ks → (ks.map fb).Pairwise (· < ·) → (∀ k ∈ ks, 0 < k.label.size) → (∀ q, R.head? = some q → ¬ P <+: q) → (∀ c, last = some c → ∀ k ∈ ks, ∀ t, ¬ c <+: (p ++ L k.label ++ t)) →
    kg P ((nodss p ks).map Prod.fst ++ R) j last = places j ks
  | [], R, j, last, _, _, _, hR, _ => by
    rw [nodss, places]
    cases R with
    | nil => rfl
    | cons q r => show kg P (q :: r) j last = []; rw [kg, if_neg (hR q rfl)]
  | k :: r, R, j, last, ho, hp, hl, hR, hL => by
    unfold Oks at ho
    rw [List.map_cons, List.pairwise_cons] at hp
    have hk0 : 0 < k.label.size := hl k List.mem_cons_self
    have hpk : P <+: p ++ L k.label := hP.trans (List.prefix_append _ _)
    rw [nodss, nods_eq, places, List.map_append, List.map_cons, List.append_assoc, List.cons_append, kg]
    rw [if_pos hpk, if_pos (fun c hc => by have := hL c hc k List.mem_cons_self []; rwa [List.append_nil] at this)]
    rw [kg_skip _ _ _ (fun q hq => ?_)]
    · have hlen : ((nodss (p ++ L k.label) k.kids).map Prod.fst).length = cntNs k.kids := by rw [List.length_map, nodss_len]
      rw [hlen, show j + 1 + cntNs k.kids = j + cntN k by rw [cntN_eq]; omega]
      congr 1
      refine kg_kids hP r R _ _ ho.2 hp.2 (fun x hx => hl x (List.mem_cons_of_mem _ hx)) hR (fun c hc k' hk' t => ?_)
      injection hc with hc
      subst hc
      exact apart_pre hk0 (hl k' (List.mem_cons_of_mem _ hk')) (fun e => by have := hp.1 (fb k') (List.mem_map_of_mem hk'); rw [e] at this; exact absurd this (by simp)) t
    · obtain ⟨x, hx, rfl⟩ := List.mem_map.1 hq
      have h1 : p ++ L k.label <+: x.1 := by
        have hx2 : x ∈ nods p k := by rw [nods_eq]; exact List.mem_cons_of_mem _ hx
        exact nods_pre ho.1 hx2
      exact ⟨hpk.trans h1, h1⟩
end Go.Proofs.Ytjhgknagmiekeaa.F
set_option linter.unusedVariables false
set_option linter.unusedSimpArgs false
namespace Go.Proofs.Ytjhgknagmiekeaa.N
open Go.RowKit Go.Proofs.Ytjhgknagmiekeaa.K Go.Proofs.YtjhgknagmiekeaaW.PrintWords Go.Proofs.YtjhgknagmiekeaaW.PrintLast
open Go.Proofs.Ytjhgknagmiekeaa.V (kpF kpU)
def PlAt (w : World) (v : Value) (idx : List Nat) : Prop := SlI w v (ints idx)
theorem PlAt.below {w w' : World} {v : Value} {idx : List Nat} (h : PlAt w v idx) (hb : Below w.heap.size w w') : PlAt w' v idx := SlI.below h hb
def GoAt (w : World) (v : Value) (l : List S35) : Prop := ∃ A c, v = .slice A l.length c ∧ l.length ≤ c ∧ Kd.C k35 w A l.length l
theorem GoAt.below {w w' : World} {v : Value} {l : List S35} (h : GoAt w v l) (hb : Below w.heap.size w w') : GoAt w' v l := by
  obtain ⟨A, c, h1, h2, h3⟩ := h
  exact ⟨A, c, h1, h2, Kd.C_below h3 hb⟩
end Go.Proofs.Ytjhgknagmiekeaa.N
