/- joined: N7 N14 F5 N12 N8 N15 N16 -/
import Derived.Test.YtjhgknagmiekeaaJX13
import Derived.Test.YtjhgknagmiekeaaJX14
import Derived.Test.YtjhgknagmiekeaaJX4
import Derived.Test.YtjhgknagmiekeaaJX5
import Derived.Test.YtjhgknagmiekeaaJX10
import Derived.Deep.RegionHeld3
set_option linter.unusedVariables false
set_option linter.unusedSimpArgs false
namespace Go.Proofs.Ytjhgknagmiekeaa.N
open Go.RowKit Go.Proofs.Ytjhgknagmiekeaa.K Go.Proofs.YtjhgknagmiekeaaW.PrintWords Go.Proofs.YtjhgknagmiekeaaW.PrintLast
open Go.Proofs.Ytjhgknagmiekeaa.V (valI ovr ovrs ownE ovr_eq pre skU kpU skF kpF skL)
abbrev ints (l : List Nat) : List Int := l.map (fun (i : Nat) => (i : Int))
def upto (xs : List ByteArray) (p : ByteArray → Bool) (n : Nat) : List Nat := (List.range n).filter (fun i => p (gd xs i))
theorem starts_pre (a b : ByteArray) : musterref01_Starts.f a b = some (pre (T.L a) (T.L b)) := V.pre_f a b
end Go.Proofs.Ytjhgknagmiekeaa.N
set_option linter.unusedVariables false
set_option linter.unusedSimpArgs false
namespace Go.Proofs.Ytjhgknagmiekeaa.N
open Go.RowKit Go.Proofs.Ytjhgknagmiekeaa.K Go.Proofs.YtjhgknagmiekeaaW.PrintWords Go.Proofs.YtjhgknagmiekeaaW.PrintLast
open Go.Proofs.Ytjhgknagmiekeaa.T (Nd Lf Ent All valT findT nodeT Parts IntVals mem_all all_rise Fine Tr)
open Go.Proofs.Ytjhgknagmiekeaa.V (valI ovr pre)
structure RokP (t : Rt) : Prop extends Rok t where
  prise : Rise t.ps
  pmem : ∀ x, x ∈ t.ps ↔ PathOf t.ks t.ks.length (T.L x)
inductive MkR (op : List ByteArray) (om : List Int) (a : ByteArray) : List ByteArray → Int → List Int → Int → Prop
  | nil (x : Int) : MkR op om a [] x [] x
  | keep (q : ByteArray) (P : List ByteArray) (x : Int) (n : Nat) (Mk : List Int) (y : Int) : n < op.length → gd op n = q → ¬ T.L q <+: T.L a → MkR op om a P x Mk y → MkR op om a (q :: P) x (rd om n :: Mk) y
  | fresh (q : ByteArray) (P : List ByteArray) (x : Int) (Mk : List Int) (y : Int) : (q ∈ op → T.L q <+: T.L a) → MkR op om a P (wrap64 (x + 1)) Mk y → MkR op om a (q :: P) x (x :: Mk) y
theorem MkR.len {op : List ByteArray} {om : List Int} {a : ByteArray} {P : List ByteArray} {x y : Int} {Mk : List Int} (h : MkR op om a P x Mk y) : P.length = Mk.length := by
  induction h with
  | nil => rfl
  | keep _ _ _ _ _ _ _ _ _ _ ih => simp [ih]
  | fresh _ _ _ _ _ _ _ ih => simp [ih]
theorem remade_ex2 (op : List ByteArray) (om : List Int) (K : List ByteArray) (V L : List Int) (P0 : List ByteArray) (M0 : List Int) (k0 : List ByteArray) (v0 l0 : List Int) (a : ByteArray) (nx : Int)
    (hop : op.length = om.length) (hopl : op.length < 8796093022208) (hops : Sml op) (hopr : Rise op) (hK : K.length < 1000000000000) (hKs : Sml K) :
    ∃ (P : List ByteArray) (Mk : List Int) (nx' : Int), Ev (fun k => musterref03_remade.f k k0 v0 l0 op om K V L P0 M0 a nx) (K, V, L, P, Mk, nx') ∧ MkR op om a P nx Mk nx' ∧ P.length ≤ 1 + 2 * K.length ∧ Sml P ∧ Rise P ∧ ∀ x, x ∈ P ↔ PathOf K K.length (T.L x) := by
  obtain ⟨P, p1, p2, p3, -, p5, p6⟩ := paths_ex2 K hK hKs
  have key : ∀ d i : Nat, P.length - i = d → i ≤ P.length → ∀ (mk : List Int) (x : Int), mk.length = i → ∃ (Mk : List Int) (nx' : Int), Ev (fun k => musterref03_remade.l0 k a x P (P.length : Int) (i : Int) k0 v0 l0 op om K V L P mk) (K, V, L, P, mk ++ Mk, nx') ∧ MkR op om a (P.drop i) x Mk nx' := by
    intro d
    induction d with
    | zero =>
      intro i hd hi mk x hm
      refine ⟨[], x, Ev.step (f := fun k => some (K, V, L, P, mk ++ [], x)) (fun k => ?_) (Ev.now _), ?_⟩
      · simp only [musterref03_remade.l0]
        rw [if_neg (by omega), List.append_nil]
      · rw [List.drop_eq_nil_of_le (by omega)]
        exact .nil x
    | succ d ih =>
      intro i hd hi mk x hm
      have hlt : i < P.length := by omega
      have hdr : P.drop i = gd P i :: P.drop (i + 1) := by rw [List.drop_eq_getElem_cons hlt, gd_get hlt]
      obtain ⟨n, b, f1, f2, f3, f4⟩ := find_ex op (gd P i) (by omega) hops
      have f5 := (f4 hopr).2
      cases b with
      | true =>
        have hn : n < op.length := (f3 rfl).1
        have ht := starts_pre a (gd P i)
        cases t : pre (T.L a) (T.L (gd P i)) with
        | true =>
          rw [t] at ht
          obtain ⟨Mk, nx', r1, r2⟩ := ih (i + 1) (by omega) (by omega) (mk ++ [x]) (wrap64 (x + 1)) (by simp; omega)
          rw [List.append_assoc, List.singleton_append] at r1
          refine ⟨x :: Mk, nx', Ev.step (f := fun k => (musterref03_Find.f k op (gd P i)).bind fun bt => if bt.2 = true then musterref03_remade.l0 k a (wrap64 (x + 1)) P (P.length : Int) ((i + 1 : Nat) : Int) k0 v0 l0 op om K V L P (mk ++ [x]) else none) (fun k => ?_) (Ev.bind f2 (by simpa using r1)), by rw [hdr]; exact .fresh _ _ _ _ _ (fun _ => (pre_iff _ _).1 t) r2⟩
          simp only [musterref03_remade.l0]
          rw [if_pos (by omega), if_pos (by omega), if_pos (by omega), rdOf_gd, wadd i (by omega), ht]
          cases hq : musterref03_Find.f k op (gd P i) with
          | none => rfl
          | some y =>
            have hy := ev_uniq (fun m => musterref03_Find.mono op (gd P i) m) f2 hq
            subst hy
            simp [hm, show i < 17592186044416 by omega]
        | false =>
          rw [t] at ht
          obtain ⟨Mk, nx', r1, r2⟩ := ih (i + 1) (by omega) (by omega) (mk ++ [rd om n]) x (by simp; omega)
          rw [List.append_assoc, List.singleton_append] at r1
          refine ⟨rd om n :: Mk, nx', Ev.step (f := fun k => (musterref03_Find.f k op (gd P i)).bind fun bt => if bt = ((n : Int), true) then musterref03_remade.l0 k a x P (P.length : Int) ((i + 1 : Nat) : Int) k0 v0 l0 op om K V L P (mk ++ [rd om n]) else none) (fun k => ?_) (Ev.bind f2 (by simpa using r1)), by rw [hdr]; exact .keep _ _ _ n _ _ hn (f3 rfl).2 ((pre_false _ _).1 t) r2⟩
          simp only [musterref03_remade.l0]
          rw [if_pos (by omega), if_pos (by omega), if_pos (by omega), rdOf_gd, wadd i (by omega), ht]
          cases hq : musterref03_Find.f k op (gd P i) with
          | none => rfl
          | some y =>
            have hy := ev_uniq (fun m => musterref03_Find.mono op (gd P i) m) f2 hq
            subst hy
            simp [hm, show i < 17592186044416 by omega, show n < om.length by omega]
      | false =>
        obtain ⟨Mk, nx', r1, r2⟩ := ih (i + 1) (by omega) (by omega) (mk ++ [x]) (wrap64 (x + 1)) (by simp; omega)
        rw [List.append_assoc, List.singleton_append] at r1
        refine ⟨x :: Mk, nx', Ev.step (f := fun k => (musterref03_Find.f k op (gd P i)).bind fun bt => if bt = ((n : Int), false) then musterref03_remade.l0 k a (wrap64 (x + 1)) P (P.length : Int) ((i + 1 : Nat) : Int) k0 v0 l0 op om K V L P (mk ++ [x]) else none) (fun k => ?_) (Ev.bind f2 (by simpa using r1)), by rw [hdr]; exact .fresh _ _ _ _ _ (fun h => absurd (f5.2 h) (by simp)) r2⟩
        simp only [musterref03_remade.l0]
        rw [if_pos (by omega), if_pos (by omega), if_pos (by omega), rdOf_gd, wadd i (by omega)]
        cases hq : musterref03_Find.f k op (gd P i) with
        | none => rfl
        | some y =>
          have hy := ev_uniq (fun m => musterref03_Find.mono op (gd P i) m) f2 hq
          subst hy
          simp [hm, show i < 17592186044416 by omega]
  obtain ⟨Mk, nx', q1, q2⟩ := key P.length 0 (by omega) (by omega) [] nx rfl
  exact ⟨P, Mk, nx', Ev.congr (fun k => rfl) (Ev.bind p1 q1), q2, p2, p3, p5, p6⟩
theorem delete_ex2 (t : Rt) (h : RokP t) (n : Nat) (hn : n < t.ks.length) (a : ByteArray) (nx : Int) (hl : t.ks.length < 100000000000) :
    ∃ (P : List ByteArray) (M : List Int) (nx' : Int), Ev (fun k => musterref03_remade.f k t.ks t.vs t.ls t.ps t.ms (cutAt t.ks n) (cutAt t.vs n) (cutAt t.ls n) [] [] a nx) (cutAt t.ks n, cutAt t.vs n, cutAt t.ls n, P, M, nx') ∧ RokP ⟨cutAt t.ks n, cutAt t.vs n, cutAt t.ls n, P, M⟩ ∧ MkR t.ps t.ms a P nx M nx' := by
  have e1 := cutAt_len t.ks n hn
  have e2 := cutAt_len t.vs n (by rw [h.v]; exact hn)
  have e3 := cutAt_len t.ls n (by rw [h.l]; exact hn)
  have hKs : Sml (cutAt t.ks n) := fun x hx => h.sk x ((cutAt_sub t.ks n).subset hx)
  have hp := h.p
  obtain ⟨P, M, nx', r1, r2, r3, r4, r5, r6⟩ := remade_ex2 t.ps t.ms (cutAt t.ks n) (cutAt t.vs n) (cutAt t.ls n) [] [] t.ks t.vs t.ls a nx h.m (by omega) h.sp h.prise (by omega) hKs
  exact ⟨P, M, nx', r1, ⟨⟨by show (cutAt t.vs n).length = (cutAt t.ks n).length; rw [e1, e2, h.v], by show (cutAt t.ls n).length = (cutAt t.ks n).length; rw [e1, e3, h.l], r2.len, r3, hKs, r4, rise_cut h.rise n⟩, r5, r6⟩, r2⟩
theorem key_iff {root : Nd} {t : Rt} (hg : T.Good root) (hv : IntVals root) (ht : Rok t) (h : Agree root t) (q : List UInt8) : findT root q ≠ none ↔ ∃ j, j < t.ks.length ∧ q = T.L (gd t.ks j) := by
  rw [← T.valT_ne]
  constructor
  · intro hne
    obtain ⟨x, hx⟩ : ∃ x, valT root q = some (.int .i64 x) := by
      cases hf : findT root q with
      | none => exact absurd (by unfold valT; rw [hf]; rfl) hne
      | some l =>
        obtain ⟨v, ev⟩ := hv _ _ hf
        exact ⟨v, by unfold valT; rw [hf, Option.map_some, ev]⟩
    rw [← mem_ey hg hv, show (All root).map ey = _ from h, List.mem_map] at hx
    obtain ⟨y, hy, e⟩ := hx
    obtain ⟨j, hj, ej⟩ := List.getElem_of_mem (List.of_mem_zip hy).1
    refine ⟨j, hj, ?_⟩
    rw [gd_get hj, ej]
    unfold ex at e
    exact (Prod.mk.inj e).1.symm
  · rintro ⟨j, hj, rfl⟩
    have hj2 : j < (t.ks.zip t.vs).length := by rw [List.length_zip, ht.v]; omega
    have hm : ex ((t.ks.zip t.vs)[j]) ∈ (All root).map ey := by
      rw [show (All root).map ey = _ from h]
      exact List.mem_map_of_mem (List.getElem_mem hj2)
    have := (mem_ey hg hv _ _).1 hm
    rw [List.getElem_zip] at this
    rw [gd_get hj]
    show valT root (T.L t.ks[j]) ≠ none
    dsimp only at this
    rw [this]
    simp
theorem path_iff {root : Nd} {t : Rt} (hf : Fine root) (hv : IntVals root) (ht : Rok t) (h : Agree root t) (q : List UInt8) : PathOf t.ks t.ks.length q ↔ nodeT root q ≠ none := by
  by_cases hq : q = []
  · subst hq
    rw [T.nodeT_nil]
    exact ⟨fun _ => by simp, fun _ => .inl rfl⟩
  · rw [T.node_iff q.length root q (Nat.le_refl _) hq hf.ok hf.br, key_iff hf.toGood hv ht h]
    have hk : ∀ j, j < t.ks.length → findT root (T.L (gd t.ks j)) ≠ none := fun j hj => (key_iff hf.toGood hv ht h _).2 ⟨j, hj, rfl⟩
    constructor
    · rintro (e | ⟨j, h1, h2⟩ | ⟨j, h1, h2⟩)
      · exact absurd e hq
      · exact .inl ⟨j, h1, h2⟩
      · rcases lcp_cases (T.L (gd t.ks j)) (T.L (gd t.ks (j + 1))) with e | e | ⟨a, b, s, r, e0, e1, e2⟩
        · exact .inl ⟨j, by omega, by rw [h2, e]⟩
        · exact .inl ⟨j + 1, h1, by rw [h2, e]⟩
        · refine .inr ⟨a, b, s, r, e0, ?_, ?_⟩
          · rw [h2, ← e1]; exact hk j (by omega)
          · rw [h2, ← e2]; exact hk (j + 1) h1
    · rintro (h1 | ⟨a, b, s, r, e0, e1, e2⟩)
      · exact .inr (.inl h1)
      · obtain ⟨i, hi, ei⟩ := (key_iff hf.toGood hv ht h _).1 e1
        obtain ⟨j, hj, ej⟩ := (key_iff hf.toGood hv ht h _).1 e2
        rcases Nat.lt_trichotomy i j with hij | hij | hij
        · exact .inr (.inr (fork_near ht.rise q (j - i) i j a b s r rfl hij hj e0 ei.symm ej.symm))
        · exfalso
          subst hij
          rw [← ei] at ej
          have := List.append_cancel_left ej
          injection this with h1 _
          exact e0 h1.symm
        · exact .inr (.inr (fork_near ht.rise q (i - j) j i b a r s rfl hij hi (fun e => e0 e.symm) ej.symm ei.symm))
end Go.Proofs.Ytjhgknagmiekeaa.N
set_option linter.unusedVariables false
set_option linter.unusedSimpArgs false
namespace Go.Proofs.Ytjhgknagmiekeaa.F
open Go.RowKit Go.Lib Go.Proofs
open Go.Proofs.Ytjhgknagmiekeaa.T
open Go.Proofs.Ytjhgknagmiekeaa.N (Rok RokP Agree Rise PathOf path_iff)
open Go.Proofs.YtjhgknagmiekeaaW.PrintWords hiding blk_cell Kept
abbrev Kb (root : Nd) : Nat → Bool := fun b => decide (b ∈ bls root)
theorem kn_self (root : Nd) : Kn (Kb root) root := fun b hb => decide_eq_true hb
theorem kb_new {w : World} {root : Nd} (h : NdAt w root) {b : Nat} (hb : w.heap.size ≤ b) : Kb root b = false := by
  refine decide_eq_false (fun hm => ?_)
  obtain ⟨cs, t, e⟩ := bls_cells root h hm
  have := (Array.getElem?_eq_some_iff.1 e).1
  omega
theorem top_L {root : Nd} (h : T.Good root) (r : List UInt8) : L root.label ++ r = r := by
  rw [show L root.label = [] from List.length_eq_zero_iff.1 (by rw [L_len]; exact h.top), List.nil_append]
def Anew (r1 r2 : Nd) (k : ByteArray) : Prop := ∃ e : Nat, e ≤ 1 ∧ cntF (Kb r1) r2 = onC r2 (L k) + e
theorem insF (w : World) (tb : Nat) (root : Nd) (h : Tr w tb root) (k : ByteArray) (v : Int) (hk : k.size < 4000000000000) (hs : (All root).length < 3999999999999) :
    Calls Try.prog 43 #[ptr tb, .string k, .int .i64 v] w fun e w' => ∃ tb' root', e = .returned (wasV tb' (valT root (L k))) ∧ Tr w' tb' root' ∧ (∀ r, valT root' r = if r = L k then some (.int .i64 v) else valT root r) ∧ (All root').length ≤ (All root).length + 1 ∧ Anew root root' k ∧ Below w.heap.size w w' := by
  refine (treeInsert w tb root _ v k h.at_ h.fine.ok h.fine.sm hk (by omega) (by omega)).mono ?_
  rintro e w' ⟨tb', lb, m, ns, had, old, rfl, h1, h2, h3, h4, h5, h6, hB⟩
  have hg := fine_ins h.fine k hk ⟨lb, k, .int .i64 v, m⟩ rfl ns
  have hl := len_ins h.fine.toGood k ⟨lb, k, .int .i64 v, m⟩ ns hg.toGood
  rw [find_eq h.fine.toGood] at h2
  obtain ⟨ee, he1, he2, -⟩ := ins_fresh (K := Kb root) k.size k (Nat.le_refl _) root h.fine.ok (kn_self root) ⟨lb, k, .int .i64 v, m⟩ ns (fun j => kb_new h.at_.root (h6.new j).1)
  rw [top_L h.fine.toGood] at he2
  refine ⟨tb', insN root k ⟨lb, k, .int .i64 v, m⟩ ns, ?_, ⟨?_, hg, vals_ins h.fine.toGood h.vals k _ v rfl ns⟩, valT_ins h.fine.toGood k _ ns, ?_, ⟨ee, he1, he2⟩, hB⟩
  · unfold valT
    cases e : findT root (L k) with
    | none => rw [e] at h2; cases h2; rfl
    | some l => rw [e] at h2; cases h2; rfl
  · have e : (All root).length + incr had = ((All (insN root k ⟨lb, k, .int .i64 v, m⟩ ns)).length : Int) := by
      rw [hl]
      cases e : findT root (L k) with
      | none => rw [e] at h2; cases h2; rfl
      | some l => rw [e] at h2; cases h2; rfl
    rw [← e]
    exact h1
  · have : (if findT root (L k) = none then (1 : Int) else 0) ≤ 1 := by split <;> omega
    omega
theorem delF (w : World) (tb : Nat) (root : Nd) (h : Tr w tb root) (k : ByteArray) (hk : k.size < 4000000000000) (hs : (All root).length < 3999999999999) :
    Calls Try.prog 39 #[ptr tb, .string k] w fun e w' => ∃ tb' root', e = .returned (wasV tb' (valT root (L k))) ∧ Tr w' tb' root' ∧ (∀ r, valT root' r = if r = L k then none else valT root r) ∧ (All root').length ≤ (All root).length ∧ (if valT root (L k) = none then cntF (Kb root) root' = 0 else Anew root root' k) ∧ Below w.heap.size w w' := by
  cases e : findT root (L k) with
  | none =>
    refine (treeDelete_none w tb root _ k h.at_ h.fine hk e).mono ?_
    rintro e' w' ⟨rfl, rfl⟩
    refine ⟨tb, root, by unfold valT; rw [e]; rfl, h, fun r => ?_, Nat.le_refl _, ?_, Below.refl _ _⟩
    · split
      · rename_i hr; subst hr; unfold valT; rw [e]; rfl
      · rfl
    · rw [if_pos (by unfold valT; rw [e]; rfl)]
      exact (kn_self root).zero
  | some l =>
    obtain ⟨v, hv⟩ := h.vals _ l e
    have hpos : 0 < (All root).length := by
      have := (mem_all h.fine.toGood _ l).2 e
      exact List.length_pos_of_mem this
    refine (treeDelete_some w tb root _ k l v h.at_ h.fine hk (by omega) (by omega) e hv).mono ?_
    rintro e' w' ⟨tb', m, ns, rfl, h1, h2, h3, h4, hB⟩
    obtain ⟨f1, f2, f3⟩ := fine_del h.fine k l ns h2
    have hl := len_del h.fine k l ns h2
    obtain ⟨ee, he1, he2, -, -⟩ := del_fresh (K := Kb root) k.size k (Nat.le_refl _) root m l h.fine.ok h.fine.br (kn_self root) ns (fun j => kb_new h.at_.root (h4.new j).1) h2
    rw [top_L h.fine.toGood] at he2
    refine ⟨tb', m, ?_, ⟨by rw [hl]; exact h1, f1, fun r l' e' => ?_⟩, valT_del h.fine k l ns h2, by omega, ?_, hB⟩
    · unfold valT; rw [e]; show _ = Ending.returned (.tuple #[ptr tb', l.val, .bool true]); rw [hv]
    · rw [f3] at e'
      split at e'
      · cases e'
      · exact h.vals r l' e'
    · rw [if_neg (by unfold valT; rw [e]; simp)]
      exact ⟨ee, he1, he2⟩
theorem paths_nods {root : Nd} {t : N.Rt} (hf : Fine root) (hv : IntVals root) (ht : RokP t) (h : Agree root t) : t.ps.map L = (Nods root).map Prod.fst := by
  refine sorted_ext (lt := (· < ·)) (fun a => blt_irrefl a) (fun a b c => blt_trans) _ _ ht.prise (List.pairwise_map.2 (nods_riseA hf.toGood)) (fun x => ?_)
  rw [List.mem_map, List.mem_map]
  constructor
  · rintro ⟨p, hp, rfl⟩
    have h1 := (path_iff hf hv ht.toRok h _).1 ((ht.pmem p).1 hp)
    obtain ⟨n, hn⟩ := Option.ne_none_iff_exists'.1 h1
    exact ⟨(L p, n), (mem_nodsA hf.toGood _ _).2 hn, rfl⟩
  · rintro ⟨⟨q, n⟩, hm, rfl⟩
    have h1 := (mem_nodsA hf.toGood _ _).1 hm
    have h2 : (⟨q.toArray⟩ : ByteArray) ∈ t.ps := (ht.pmem _).2 ((path_iff hf hv ht.toRok h _).2 (by show nodeT root (L ⟨q.toArray⟩) ≠ none; rw [show L (⟨q.toArray⟩ : ByteArray) = q from by simp [L], h1]; simp))
    exact ⟨_, h2, by simp [L]⟩
theorem paths_len {root : Nd} {t : N.Rt} (hf : Fine root) (hv : IntVals root) (ht : RokP t) (h : Agree root t) : t.ps.length = cntN root := by
  have := congrArg List.length (paths_nods hf hv ht h)
  rw [List.length_map, List.length_map, nods_len] at this
  exact this
end Go.Proofs.Ytjhgknagmiekeaa.F
set_option linter.unusedVariables false
set_option linter.unusedSimpArgs false
namespace Go.Proofs.Ytjhgknagmiekeaa.N
open Go.RowKit Go.Lib Go.Proofs
open Go.Proofs.Ytjhgknagmiekeaa.K Go.Proofs.YtjhgknagmiekeaaW.PrintWords Go.Proofs.YtjhgknagmiekeaaW.PrintLast
def RtOff (M : Nat → Prop) (w : World) (t : Rt) (v0 v1 v2 v3 v4 : Value) : Prop := ∀ w2 : World, w.heap.size ≤ w2.heap.size → (∀ k, k < w.heap.size → ¬ M k → w2.heap[k]? = w.heap[k]?) → RtAt w2 t v0 v1 v2 v3 v4
theorem RtOff.here {M : Nat → Prop} {w : World} {t : Rt} {v0 v1 v2 v3 v4 : Value} (h : RtOff M w t v0 v1 v2 v3 v4) : RtAt w t v0 v1 v2 v3 v4 := h w (Nat.le_refl _) (fun _ _ _ => rfl)
theorem RtOff.below {M : Nat → Prop} {w w' : World} {t : Rt} {v0 v1 v2 v3 v4 : Value} (h : RtOff M w t v0 v1 v2 v3 v4) (hb : Below w.heap.size w w') : RtOff (fun k => M k ∨ w.heap.size ≤ k) w' t v0 v1 v2 v3 v4 := fun w2 hs hk => h w2 (Nat.le_trans hb.size hs) (fun k h1 h2 => (hk k (Nat.lt_of_lt_of_le h1 hb.size) (fun h3 => h3.elim h2 (fun h4 => by omega))).trans (hb.block k h1))
theorem RtOff.imp {M M' : Nat → Prop} {w : World} {t : Rt} {v0 v1 v2 v3 v4 : Value} (h : RtOff M w t v0 v1 v2 v3 v4) (hm : ∀ k, k < w.heap.size → M' k → M k) : RtOff M' w t v0 v1 v2 v3 v4 := fun w2 hs hk => h w2 hs (fun k h1 h2 => hk k h1 (fun h3 => h2 (hm k h1 h3)))
theorem rtOff_rob {B : Nat} {w : World} {t : Rt} {v0 v1 v2 v3 v4 : Value} (h : ∀ w2, Rob B w w2 → RtAt w2 t v0 v1 v2 v3 v4) : RtOff (fun k => k < B) w t v0 v1 v2 v3 v4 := fun w2 hs hk => h w2 (fun k h1 h2 => hk k h2 (by omega))
theorem SlS.c {w : World} {A : Option Addr} {n c : Nat} {xs : List ByteArray} (h : SlS w (.slice A n c) xs) : Kd.C Kd.string w A xs.length xs := by
  obtain ⟨A', c', e, h1, h2⟩ := h
  injection e with e1 e2 e3
  rw [e1]
  exact h2
theorem SlI.c {w : World} {A : Option Addr} {n c : Nat} {xs : List Int} (h : SlI w (.slice A n c) xs) : Kd.C (Kd.int .i64) w A xs.length xs := by
  obtain ⟨A', c', e, h1, h2⟩ := h
  injection e with e1 e2 e3
  rw [e1]
  exact h2
theorem add_block (ad : Addr) (n : Nat) : (ad.add n).block = ad.block := by unfold Addr.add; split <;> rfl
theorem set5_cell {W : World} {b : Nat} {v0 v1 v2 v3 v4 : Value} {a : Addr} {x : Value} (h : W.cell? a = some x) (hne : a.block ≠ b) : (((((W.setCell { block := b, off := 0 } v0).setCell { block := b, off := 1 } v1).setCell { block := b, off := 2 } v2).setCell { block := b, off := 3 } v3).setCell { block := b, off := 4 } v4).cell? a = some x :=
  (World.cell?_of_block (w := W) (V.set5_far W b v0 v1 v2 v3 v4 a.block hne)).trans h
theorem int_at {w : World} {A : Option Addr} {N : Nat} {xs : List Int} (h : Kd.C (Kd.int .i64) w A N xs) (n : Nat) (hn : n < xs.length) : ∃ ad, A = some ad ∧ ad.block < w.heap.size ∧ ∀ W : World, W.heap[ad.block]? = w.heap[ad.block]? → W.cell? (ad.add n) = some (.int .i64 (rd xs n)) := by
  have hl := Kd.C_len h
  obtain ⟨ad, cc, h1, h2, h3, h4⟩ := Kd.C_get h 0 (n : Int) (by omega) (by omega)
  have h5 : cc = [.int .i64 (rd xs n)] := h3
  have h6 := h4 0 (.int .i64 (rd xs n)) (by rw [h5]; rfl)
  have e : (n : Int).toNat * (Kd.int .i64).sz + 0 = n := by rw [show (Kd.int .i64).sz = 1 from rfl]; omega
  rw [e] at h6
  exact ⟨ad, h1, by have := World.block_lt_of_cell? w _ h6; rwa [add_block] at this, fun W hW => (World.cell?_of_block (a := ad.add n) (by rw [add_block]; exact hW)).trans h6⟩
theorem R_far28 {α : Type} {d : Kd α} {e base : Nat} {ok : Nat → Prop} {w w2 : World} {v : Value} {xs : List α} (h : d.R e w base ok v xs) (he : ∀ q, q ∈ e :: d.E → q ≠ 28) (hk : ∀ k, base ≤ k → k < w.heap.size → (∀ cells, w.heap[k]? ≠ some (.cells cells 28 (0, 0))) → w2.heap[k]? = w.heap[k]?) : ∃ A c, v = .slice A xs.length c ∧ xs.length ≤ c ∧ d.C w2 A xs.length xs := by
  refine Kd.R_reads (Kd.R_step (Kd.R_bound h) (fun k h1 h2 => hk k h1.2.1 h1.2.2.1 (fun cells hc => ?_)))
  obtain ⟨q, hq, cells', hc'⟩ := h1.2.2.2
  rw [hc] at hc'
  injection hc' with h3
  injection h3 with _ h4 _
  exact he q hq h4.symm
def DelRt (t t' : Rt) (a : ByteArray) (nx nx' : Int) (old : Int) (b : Bool) : Prop :=
  (b = false ∧ a ∉ t.ks ∧ t' = t ∧ old = 0 ∧ nx' = nx) ∨ ∃ n P M, b = true ∧ n < t.ks.length ∧ gd t.ks n = a ∧ old = rd t.vs n ∧ t' = ⟨cutAt t.ks n, cutAt t.vs n, cutAt t.ls n, P, M⟩ ∧ MkR t.ps t.ms a P nx M nx'
def del_T : Bool × List (List Nat × List Nat) := (true, [([], []), ([0], [0]), ([], []), ([2], [2]), ([], []), ([3, 4], [3, 4]), ([1, 5], [1, 5]), ([], []), ([7], [7]), ([], []), ([9], [9]), ([8, 10], [8, 10]), ([6, 11, 6], [6, 11]), ([0, 1, 2, 3, 4, 5, 6, 7, 8, 9, 10, 11, 12], []), ([13, 12, 12, 0, 1, 2, 3, 4, 5, 6, 7, 8, 9, 10, 11, 12], [12, 13])])
def del_B : List Nat := [0, 1, 0, 4, 0, 28, 63, 0, 128, 0, 512, 1920, 4095, 8191, 16383]
theorem del_bits5 : waitsOk del_T.2 del_B = true := by kernel_rfl
theorem del_bits6 : waitsOk del_T.2 del_B = true := del_bits5
theorem del_bits7 : waitsOk del_T.2 del_B = true := del_bits5
theorem del_tab5 : rtab .any (opsOf Try.f40 5) = del_T := by kernel_rfl
theorem del_tab6 : rtab .any (opsOf Try.f40 6) = del_T := by kernel_rfl
theorem del_tab7 : rtab .any (opsOf Try.f40 7) = del_T := by kernel_rfl
attribute [local go_sem] Oper.semAt_some
set_option maxRecDepth 100000 in
set_option maxHeartbeats 1500000 in
theorem delRtC (Mo : Nat → Prop) (w : World) (t : Rt) (h : RokP t) (v0 v1 v2 v3 v4 : Value) (hm : RtOff Mo w t v0 v1 v2 v3 v4) (a : ByteArray) (nx : Int) (ha : a.size < 4611686018427387904) (hl : t.ks.length < 100000000000) :
    Calls Try.prog 40 #[.agg #[v0, v1, v2, v3, v4], .string a, .int .i64 nx] w fun e w' => ∃ (t' : Rt) (old : Int) (b : Bool) (nx' : Int) (u0 u1 u2 u3 u4 : Value), e = .returned (.tuple #[.agg #[u0, u1, u2, u3, u4], .int .i64 old, .bool b, .int .i64 nx']) ∧ RtOff (fun k => Mo k ∧ k < w.heap.size) w' t' u0 u1 u2 u3 u4 ∧ RokP t' ∧ DelRt t t' a nx nx' old b ∧ Below w.heap.size w w' := by
  obtain ⟨n, b, f1, f2, f3, f4⟩ := find_ex t.ks a (by omega) h.sk
  obtain ⟨hc, hb⟩ := f4 h.rise
  obtain ⟨k, hk⟩ := f2.rounds
  have HM := Aside0.mk hm
  obtain ⟨⟨A0, c0, rfl, p0, q0⟩, ⟨A1, c1, rfl, p1, q1⟩, ⟨A2, c2, rfl, p2, q2⟩, ⟨A3, c3, rfl, p3, q3⟩, ⟨A4, c4, rfl, p4, q4⟩⟩ := hm.here
  have qf := Aside0.mk (fun w1 (hB : Below w.heap.size w w1) => musterref03_Find.calls k A0 c0 t.ks a n b w1 (Kd.C_below q0 hB) p0 hk)
  have ev := h.v
  have el := h.l
  obtain ⟨N, eN⟩ : ∃ N, t.ks.length = N := ⟨_, rfl⟩
  obtain ⟨M3, e3⟩ : ∃ N, t.ps.length = N := ⟨_, rfl⟩
  obtain ⟨M4, e4⟩ : ∃ N, t.ms.length = N := ⟨_, rfl⟩
  rw [eN] at ev el hl f1 p0
  rw [ev] at p1
  rw [el] at p2
  rw [e3] at p3
  rw [e4] at p4
  have HQ := Aside0.mk (And.intro q0 (And.intro q1 (And.intro q2 (And.intro q3 q4))))
  have HP := Aside0.mk (And.intro p0 (And.intro p1 (And.intro p2 (And.intro p3 p4))))
  have HE := Aside0.mk (And.intro eN (And.intro ev (And.intro el (And.intro e3 e4))))
  rw [eN] at qf
  rw [ev, el, eN, e3, e4]
  have HB2 := Aside0.mk (((Below.refl w.heap.size w).alloc (Nat.le_refl _) (Obj.cells #[.slice A0 N c0, .slice A1 N c1, .slice A2 N c2, .slice A3 M3 c3, .slice A4 M4 c4] 28)).alloc (by simp) (Obj.cells #[.slice none 0 0, .slice none 0 0, .slice none 0 0, .slice none 0 0, .slice none 0 0] 28))
  have HW0 := Aside0.mk (show ((w.alloc (Obj.cells #[.slice A0 N c0, .slice A1 N c1, .slice A2 N c2, .slice A3 M3 c3, .slice A4 M4 c4] 28)).alloc (Obj.cells #[.slice none 0 0, .slice none 0 0, .slice none 0 0, .slice none 0 0, .slice none 0 0] 28)).heap[w.heap.size]? = some (.cells #[.slice A0 N c0, .slice A1 N c1, .slice A2 N c2, .slice A3 M3 c3, .slice A4 M4 c4] 28 (0, 0)) ∧ ((w.alloc (Obj.cells #[.slice A0 N c0, .slice A1 N c1, .slice A2 N c2, .slice A3 M3 c3, .slice A4 M4 c4] 28)).alloc (Obj.cells #[.slice none 0 0, .slice none 0 0, .slice none 0 0, .slice none 0 0, .slice none 0 0] 28)).heap[w.heap.size + 1]? = some (Obj.cells #[.slice none 0 0, .slice none 0 0, .slice none 0 0, .slice none 0 0, .slice none 0 0] 28) from
    ⟨(Below.heap_alloc _ _ _ (by simp)).trans (World.alloc_heap_new w _), by have := World.alloc_heap_new (w.alloc (Obj.cells #[.slice A0 N c0, .slice A1 N c1, .slice A2 N c2, .slice A3 M3 c3, .slice A4 M4 c4] 28)) (Obj.cells #[.slice none 0 0, .slice none 0 0, .slice none 0 0, .slice none 0 0, .slice none 0 0] 28); rwa [World.size_alloc] at this⟩)
  have HF := Aside0.mk (And.intro f1 (And.intro f3 (And.intro hc (And.intro hb h))))
  have HL := Aside0.mk (And.intro hl ha)
  clear q0 q1 q2 q3 q4 p0 p1 p2 p3 p4 hk f1 f2 f3 f4 hc hb h ev el eN e3 e4 hm hl
  go_enter Try.func40, Try.ntmps40
  cases b
  all_goals (
    go_wp2_with fail
    go_at_call 91
    refine (qf.out _ HB2.out).mono ?_
    rintro e w2 ⟨rfl, hd⟩
    have HB := Aside0.mk (HB2.out.trans (hd.below.mono HB2.out.size))
    have bb := (hd.below.block _ (Array.getElem?_eq_some_iff.1 HW0.out.1).1).trans HW0.out.1
    have br := (hd.below.block _ (Array.getElem?_eq_some_iff.1 HW0.out.2).1).trans HW0.out.2
    have HBB := Aside0.mk (And.intro bb br)
    have m0 : w2.cell? ⟨w.heap.size, 0, none⟩ = some (.slice A0 N c0) := by rw [blk_cell bb]; rfl
    have z0 : w2.cell? ⟨w.heap.size + 1, 0, none⟩ = some (.slice none 0 0) := by rw [blk_cell br]; rfl
    have g0 : w2.frozen? ⟨w.heap.size + 1, 0, none⟩ = false := by simp [World.frozen?, br]
    have m1 : w2.cell? ⟨w.heap.size, 1, none⟩ = some (.slice A1 N c1) := by rw [blk_cell bb]; rfl
    have z1 : w2.cell? ⟨w.heap.size + 1, 1, none⟩ = some (.slice none 0 0) := by rw [blk_cell br]; rfl
    have g1 : w2.frozen? ⟨w.heap.size + 1, 1, none⟩ = false := by simp [World.frozen?, br]
    have m2 : w2.cell? ⟨w.heap.size, 2, none⟩ = some (.slice A2 N c2) := by rw [blk_cell bb]; rfl
    have z2 : w2.cell? ⟨w.heap.size + 1, 2, none⟩ = some (.slice none 0 0) := by rw [blk_cell br]; rfl
    have g2 : w2.frozen? ⟨w.heap.size + 1, 2, none⟩ = false := by simp [World.frozen?, br]
    have m3 : w2.cell? ⟨w.heap.size, 3, none⟩ = some (.slice A3 M3 c3) := by rw [blk_cell bb]; rfl
    have z3 : w2.cell? ⟨w.heap.size + 1, 3, none⟩ = some (.slice none 0 0) := by rw [blk_cell br]; rfl
    have g3 : w2.frozen? ⟨w.heap.size + 1, 3, none⟩ = false := by simp [World.frozen?, br]
    have m4 : w2.cell? ⟨w.heap.size, 4, none⟩ = some (.slice A4 M4 c4) := by rw [blk_cell bb]; rfl
    have z4 : w2.cell? ⟨w.heap.size + 1, 4, none⟩ = some (.slice none 0 0) := by rw [blk_cell br]; rfl
    have g4 : w2.frozen? ⟨w.heap.size + 1, 4, none⟩ = false := by simp [World.frozen?, br]
    clear bb br hd
    go_wp2_with fail)
  all_goals first | (exfalso; rename_i hq; first | (rw [g0] at hq; cases hq; done) | (rw [g1] at hq; cases hq; done) | (rw [g2] at hq; cases hq; done) | (rw [g3] at hq; cases hq; done) | (rw [g4] at hq; cases hq; done) | (simp only [World.frozen?, World.setCell] at hq; done)) | skip
  rotate_left
  · clear m0 m1 m2 m3 m4 z0 z1 z2 z3 z4 g0 g1 g2 g3 g4
    have hn : n < N := by have := (HF.out.2.1 (by first | trivial | rfl)).1; rw [HE.out.1] at this; exact this
    obtain ⟨B, eB⟩ : ∃ B, w2.heap.size = B := ⟨_, rfl⟩
    have hB2 : w.heap.size + 2 ≤ B := by have h1 := (Array.getElem?_eq_some_iff.1 HBB.out.2).1; omega
    rw [eB]
    have HB3 := Aside0.mk (HB.out.alloc HB.out.size (Obj.cells #[.slice none 0 0, .slice none 0 0, .slice none 0 0, .slice none 0 0, .slice none 0 0] 28))
    have HU := Aside0.mk (show (w2.alloc (Obj.cells #[.slice none 0 0, .slice none 0 0, .slice none 0 0, .slice none 0 0, .slice none 0 0] 28)).heap[w.heap.size]? = some (.cells #[.slice A0 N c0, .slice A1 N c1, .slice A2 N c2, .slice A3 M3 c3, .slice A4 M4 c4] 28 (0, 0)) ∧ (w2.alloc (Obj.cells #[.slice none 0 0, .slice none 0 0, .slice none 0 0, .slice none 0 0, .slice none 0 0] 28)).heap[w.heap.size + 1]? = some (Obj.cells #[.slice none 0 0, .slice none 0 0, .slice none 0 0, .slice none 0 0, .slice none 0 0] 28) ∧ (w2.alloc (Obj.cells #[.slice none 0 0, .slice none 0 0, .slice none 0 0, .slice none 0 0, .slice none 0 0] 28)).heap[B]? = some (Obj.cells #[.slice none 0 0, .slice none 0 0, .slice none 0 0, .slice none 0 0, .slice none 0 0] 28) from
      ⟨(Below.heap_alloc _ _ _ (by omega)).trans HBB.out.1, (Below.heap_alloc _ _ _ (by omega)).trans HBB.out.2, by rw [← eB]; exact World.alloc_heap_new w2 _⟩)
    have HZ := Aside0.mk (show B < (w2.alloc (Obj.cells #[.slice none 0 0, .slice none 0 0, .slice none 0 0, .slice none 0 0, .slice none 0 0] 28)).heap.size by rw [World.size_alloc, eB]; omega)
    generalize (w2.alloc (Obj.cells #[.slice none 0 0, .slice none 0 0, .slice none 0 0, .slice none 0 0, .slice none 0 0] 28)) = W0 at HB3 HU HZ ⊢
    clear HB HBB eB
    have hNl := HL.out.1
    obtain ⟨n1, en1⟩ : ∃ n1, n + 1 = n1 := ⟨_, rfl⟩
    have ew : IntKind.i64.wrap ((n : Int) + 1) = (n1 : Int) := by rw [IntKind.wrap_i64]; omega
    have hn1 : n1 ≤ N := by omega
    have hnN : n ≤ N := by omega
    have t0 : W0.cell? ⟨w.heap.size, 0, none⟩ = some (.slice A0 N c0) := by rw [blk_cell HU.out.1]; rfl
    have u0 : W0.cell? ⟨B, 0, none⟩ = some (.slice none 0 0) := by rw [blk_cell HU.out.2.2]; rfl
    have hpc := HP.out.1
    have QT : Aside0 (∀ W, Below w.heap.size w W → Kd.C Kd.string W A0 n (t.ks.take n)) := ⟨fun W hW => by
      have h0 := Kd.C_take (m := n) (Kd.C_below HQ.out.1 hW) (by have := HE.out.1; omega)
      have el := HE.out.1
      rwa [show (t.ks.take n).length = n by rw [List.length_take]; omega] at h0⟩
    have QD : Aside0 (∀ W, Below w.heap.size w W → Kd.C Kd.string W (if c0 = n1 then A0 else A0.map (·.add n1)) (N - n1) (t.ks.drop n1)) := ⟨fun W hW => by
      have el := HE.out.1
      have h0 := Kd.C_drop (m := n1) (c := c0) (Kd.C_below HQ.out.1 hW) (by omega) (by omega)
      rw [show n1 * (Kd.string).sz = n1 from Nat.mul_one _] at h0
      rwa [show (t.ks.drop n1).length = N - n1 by rw [List.length_drop]; omega] at h0⟩
    have hnc : n ≤ c0 := by omega
    have hn1c : n1 ≤ c0 := by omega
    obtain ⟨S5, eS5⟩ : ∃ S, W0.heap.size = S := ⟨_, rfl⟩
    have HS5 := Aside0.mk (show B < S5 from by rw [← eS5]; exact HZ.out)
    have HBd : Aside0 (Below S5 W0 W0.drew) := ⟨below_drew (Below.refl _ _)⟩
    have HES := Aside0.mk eS5
    clear eS5
    refine start_ (n := 15) (S := fun w' => w'.cell? ⟨B, 0, none⟩ = some (.slice none 0 0) ∧ w'.cell? ⟨w.heap.size, 0, none⟩ = some (.slice A0 N c0)) (ds := [14]) #[false, false, false, false, false, false, false, false, false, false, false, false, false, false, false] (by kernel_rfl) rfl rfl ⟨u0, t0⟩ (fun hHeld => ?_); refine with_tabW del_tab5 del_bits5 (fun HT_ HW_ => ?_)
    obtain ⟨Wd, eWd⟩ : ∃ Wd, W0.drew = Wd := ⟨_, rfl⟩
    rw [eWd] at HBd hHeld ⊢
    clear eWd
    refine pure_ (i := 0) (N := some 25) (v := ?_) (a' := ?_) #[true, false, false, false, false, false, false, false, false, false, false, false, false, false, false] rfl rfl (any_of HT_.out (by kernel_rfl)) (fun _ _ _ h => h) (Or.inl ⟨by rfl, ?_⟩) ?_ ?_
    rotate_left
    · intro w'
      go_simp
      with_reducible rfl
    rotate_left
    · simp only [Act.put, List.setIfInBounds_toArray, List.set_cons_zero, List.set_cons_succ, i64_w, i32_w]
      rfl
    refine pure_ (i := 2) (N := some 27) (v := ?_) (a' := ?_) #[true, false, true, false, false, false, false, false, false, false, false, false, false, false, false] rfl rfl (any_of HT_.out (by kernel_rfl)) (fun _ _ _ h => h) (Or.inl ⟨by rfl, ?_⟩) ?_ ?_
    rotate_left
    · intro w'
      go_simp
      with_reducible rfl
    rotate_left
    · simp only [Act.put, List.setIfInBounds_toArray, List.set_cons_zero, List.set_cons_succ, i64_w, i32_w]
      rfl
    refine pure_ (i := 4) (N := some 29) (v := ?_) (a' := ?_) #[true, false, true, false, true, false, false, false, false, false, false, false, false, false, false] rfl rfl (any_of HT_.out (by kernel_rfl)) (fun _ _ _ h => h) (Or.inl ⟨by rfl, ?_⟩) ?_ ?_
    rotate_left
    · intro w'
      go_simp
      with_reducible rfl
    rotate_left
    · simp only [Act.put, List.setIfInBounds_toArray, List.set_cons_zero, List.set_cons_succ, i64_w, i32_w]
      rfl
    refine pure_ (i := 7) (N := some 32) (v := ?_) (a' := ?_) #[true, false, true, false, true, false, false, true, false, false, false, false, false, false, false] rfl rfl (any_of HT_.out (by kernel_rfl)) (fun _ _ _ h => h) (Or.inl ⟨by rfl, ?_⟩) ?_ ?_
    rotate_left
    · intro w'
      go_simp
      with_reducible rfl
    rotate_left
    · simp only [Act.put, List.setIfInBounds_toArray, List.set_cons_zero, List.set_cons_succ, i64_w, i32_w]
      rfl
    refine pure_ (i := 9) (N := some 34) (v := ?_) (a' := ?_) #[true, false, true, false, true, false, false, true, false, true, false, false, false, false, false] rfl rfl (any_of HT_.out (by kernel_rfl)) (fun _ _ _ h => h) (Or.inl ⟨by rfl, ?_⟩) ?_ ?_
    rotate_left
    · intro w'
      go_simp
      with_reducible rfl
    rotate_left
    · simp only [Act.put, List.setIfInBounds_toArray, List.set_cons_zero, List.set_cons_succ, i64_w, i32_w]
      rfl
    refine pure_ (i := 10) (N := some 35) (v := ?_) (a' := ?_) #[true, false, true, false, true, false, false, true, false, true, true, false, false, false, false] rfl rfl (any_of HT_.out (by kernel_rfl)) (fun _ _ _ h => h) (Or.inl ⟨by rfl, ?_⟩) ?_ ?_
    rotate_left
    · intro w'
      go_simp
      with_reducible rfl
    rotate_left
    · simp only [Act.put, List.setIfInBounds_toArray, List.set_cons_zero, List.set_cons_succ, i64_w, i32_w]
      rfl
    refine take_ (i := 1) (N := some 26) (v := ?_) (a' := ?_) #[true, true, true, false, true, false, false, true, false, true, true, false, false, false, false] rfl rfl (take_ofW HT_.out HW_.out (by kernel_rfl)) (fun _ _ _ h => h) (Or.inl ⟨by rfl, ?_⟩) hHeld ?_ ?_
    rotate_left
    · rintro w' ⟨s0, s1⟩
      go_simp
      with_reducible rfl
    rotate_left
    · simp only [Act.put, List.setIfInBounds_toArray, List.set_cons_zero, List.set_cons_succ, i64_w, i32_w]
      rfl
    refine take_ (i := 3) (N := some 28) (v := ?_) (a' := ?_) #[true, true, true, true, true, false, false, true, false, true, true, false, false, false, false] rfl rfl (take_ofW HT_.out HW_.out (by kernel_rfl)) (fun _ _ _ h => h) (Or.inl ⟨by rfl, ?_⟩) hHeld ?_ ?_
    rotate_left
    · rintro w' ⟨s0, s1⟩
      go_simp
      with_reducible rfl
    rotate_left
    · simp only [Act.put, List.setIfInBounds_toArray, List.set_cons_zero, List.set_cons_succ, i64_w, i32_w]
      rfl
    refine pure_ (i := 5) (N := some 30) (v := ?_) (a' := ?_) #[true, true, true, true, true, true, false, true, false, true, true, false, false, false, false] rfl rfl (any_of HT_.out (by kernel_rfl)) (fun _ _ _ h => h) (Or.inl ⟨by rfl, ?_⟩) ?_ ?_
    rotate_left
    · intro w'
      go_simp
      with_reducible rfl
    rotate_left
    · simp only [Act.put, List.setIfInBounds_toArray, List.set_cons_zero, List.set_cons_succ, i64_w, i32_w]
      rfl
    refine take_ (i := 8) (N := some 33) (v := ?_) (a' := ?_) #[true, true, true, true, true, true, false, true, true, true, true, false, false, false, false] rfl rfl (take_ofW HT_.out HW_.out (by kernel_rfl)) (fun _ _ _ h => h) (Or.inl ⟨by rfl, ?_⟩) hHeld ?_ ?_
    rotate_left
    · rintro w' ⟨s0, s1⟩
      go_simp
      with_reducible rfl
    rotate_left
    · simp only [Act.put, List.setIfInBounds_toArray, List.set_cons_zero, List.set_cons_succ, i64_w, i32_w]
      rfl
    refine pure_ (i := 11) (N := some 36) (v := ?_) (a' := ?_) #[true, true, true, true, true, true, false, true, true, true, true, true, false, false, false] rfl rfl (any_of HT_.out (by kernel_rfl)) (fun _ _ _ h => h) (Or.inl ⟨by rfl, ?_⟩) ?_ ?_
    rotate_left
    · intro w'
      go_simp
      with_reducible rfl
    rotate_left
    · simp only [Act.put, List.setIfInBounds_toArray, List.set_cons_zero, List.set_cons_succ, i64_w, i32_w]
      rfl
    refine one_ (i := 6) (N := some 31) #[true, true, true, true, true, true, true, true, true, true, true, true, false, false, false] rfl rfl (one_of HT_.out (by kernel_rfl)) (by decide) (fun K hK => ?_)
    refine Kd.R_append_rows_step Kd.string (w0 := W0) S5 (by rfl) (.tmp 26) (.tmp 30) 25 9 (.string ⟨#[]⟩) 16 rfl Try.underlying25 info9 rfl (by decide) (by omega) (.slice none 0 0) ([] : List ByteArray) (t.ks.take n) _ _ _ (fun _ => True) (fun _ => False) rfl rfl (Kd.R_nil _ _ _ _ _) (QT.out _ (HB3.out.trans (HBd.out.mono (by rw [← HES.out]; exact HB3.out.size)))) (fun _ _ h => h) (fun _ h => h.elim) (fun _ _ => trivial) HBd.out (by have := HBd.out.size; rw [HES.out] at this; exact this) (by rw [List.length_nil]; omega) ?_
    intro v1_ wa_ ho hb hg hat
    have HO1 := Aside0.mk ho
    have HBa := Aside0.mk hb
    have t1 : wa_.cell? ⟨w.heap.size, 0, none⟩ = some (.slice A0 N c0) := (World.cell?_of_block (hb.block w.heap.size (by have := HS5.out; omega))).trans t0
    have u1 : wa_.cell? ⟨B, 0, none⟩ = some (.slice none 0 0) := (World.cell?_of_block (hb.block B HS5.out)).trans u0
    clear ho hb hg hat hHeld
    refine hK.out _ _ ⟨u1, t1⟩ (fun hHeld => ?_)
    clear hK K
    refine norm_ (a' := ?_) ?_ ?_
    rotate_left
    · show Act.put _ (some 31) _ = _
      simp only [Act.put, List.setIfInBounds_toArray, List.set_cons_zero, List.set_cons_succ, i64_w, i32_w]
      rfl
    refine one_ (i := 12) (N := some 37) #[true, true, true, true, true, true, true, true, true, true, true, true, true, false, false] rfl rfl (one_of HT_.out (by kernel_rfl)) (by decide) (fun K hK => ?_)
    refine Kd.R_append_rows_step Kd.string (w0 := W0) S5 (by rfl) (.tmp 31) (.tmp 36) 25 9 (.string ⟨#[]⟩) 16 rfl Try.underlying25 info9 rfl (by decide) (by omega) v1_ (t.ks.take n) (t.ks.drop n1) _ _ _ (fun _ => True) (fun _ => False) rfl rfl (by first | exact HO1.out | exact Kd.R_drew HO1.out) (QD.out _ (HB3.out.trans (Below.mono (by first | exact HBa.out | exact below_drew HBa.out) (by rw [← HES.out]; exact HB3.out.size)))) (fun _ _ h => h) (fun _ h => h.elim) (fun _ _ => trivial) (by first | exact HBa.out | exact below_drew HBa.out) (by have := HBa.out.size; rw [HES.out] at this; exact this) (by rw [List.length_take]; have := HE.out.1; omega) ?_
    intro v5_ wb_ ho hb hg hat
    obtain ⟨D5, d5, rfl⟩ := Kd.R_slice ho
    have elc : (t.ks.take n ++ t.ks.drop n1).length = N - 1 := by rw [List.length_append, List.length_take, List.length_drop]; have := HE.out.1; omega
    rw [elc] at ho
    rw [elc]
    clear elc
    have HO2 := Aside0.mk ho
    have HBb := Aside0.mk hb
    have t2 : wb_.cell? ⟨w.heap.size, 0, none⟩ = some (.slice A0 N c0) := (World.cell?_of_block (hb.block w.heap.size (by have := HS5.out; omega))).trans t0
    have u2 : wb_.cell? ⟨B, 0, none⟩ = some (.slice none 0 0) := (World.cell?_of_block (hb.block B HS5.out)).trans u0
    have bu2 := (hb.block B HS5.out).trans HU.out.2.2
    have uf2 : wb_.frozen? ⟨B, 0, none⟩ = false := by simp [World.frozen?, bu2]
    clear bu2 ho hb hg hat hHeld
    refine hK.out _ _ ⟨u2, t2⟩ (fun hHeld => ?_)
    clear hK K
    refine norm_ (a' := ?_) ?_ ?_
    rotate_left
    · show Act.put _ (some 37) _ = _
      simp only [Act.put, List.setIfInBounds_toArray, List.set_cons_zero, List.set_cons_succ, i64_w, i32_w]
      rfl
    refine pure_ (i := 13) (N := some 38) (v := ?_) (a' := ?_) #[true, true, true, true, true, true, true, true, true, true, true, true, true, true, false] rfl rfl (any_of HT_.out (by kernel_rfl)) (fun _ _ _ h => h) (Or.inl ⟨by rfl, ?_⟩) ?_ ?_
    rotate_left
    · intro w'
      go_simp
      with_reducible rfl
    rotate_left
    · simp only [Act.put, List.setIfInBounds_toArray, List.set_cons_zero, List.set_cons_succ, i64_w, i32_w]
      rfl
    refine last_ (i := 14) (N := none) #[true, true, true, true, true, true, true, true, true, true, true, true, true, true, true] rfl rfl (one_of HT_.out (by kernel_rfl)) (by decide) (fun K hK => ?_)
    refine skip_ (w1 := ?_) (by rfl) rfl ?_ ?_
    rotate_left
    · go_simp
      rfl
    refine hK.out _ _ ?_
    clear hK K
    refine done_ (done_of HT_.out (by kernel_rfl)) ?_
    generalize (if c0 = n1 then A0 else Option.map (fun x => x.add n1) A0) = X5
    have KP : Aside0 (∀ k, k < S5 → k ≠ B → (wb_.setCell ⟨B, 0, none⟩ (.slice D5 (N - 1) d5)).heap[k]? = W0.heap[k]?) := ⟨fun k h1 h2 => (Below.heap_setCell _ _ _ k (by exact h2)).trans (HBb.out.block k h1)⟩
    have HSZ : Aside0 (S5 ≤ (wb_.setCell ⟨B, 0, none⟩ (.slice D5 (N - 1) d5)).heap.size) := ⟨by rw [T.size_setCell]; have := HBb.out.size; rw [HES.out] at this; exact this⟩
    have bu3 := (HBb.out.block B HS5.out).trans HU.out.2.2
    have HR5 : Aside0 (Kd.R Kd.string 9 (wb_.setCell ⟨B, 0, none⟩ (.slice D5 (N - 1) d5)) S5 (fun k => S5 ≤ k ∧ k < (wb_.setCell ⟨B, 0, none⟩ (.slice D5 (N - 1) d5)).heap.size) (.slice D5 (N - 1) d5) (cutAt t.ks n)) := ⟨by
      have e0 : t.ks.take n ++ t.ks.drop n1 = cutAt t.ks n := by rw [← en1]; rfl
      have h0 := Kd.R_set HO2.out bu3 (by decide) 0 (.slice D5 (N - 1) d5)
      rw [e0] at h0
      exact Kd.R_mono (Kd.R_bound h0) (fun k hk => ⟨hk.2.1, hk.2.2.1⟩)⟩
    have n0_ := Aside0.mk (show (wb_.setCell ⟨B, 0, none⟩ (.slice D5 (N - 1) d5)).heap[w.heap.size]? = some (.cells #[.slice A0 N c0, .slice A1 N c1, .slice A2 N c2, .slice A3 M3 c3, .slice A4 M4 c4] 28 (0, 0)) ∧ (wb_.setCell ⟨B, 0, none⟩ (.slice D5 (N - 1) d5)).heap[w.heap.size + 1]? = some (Obj.cells #[.slice none 0 0, .slice none 0 0, .slice none 0 0, .slice none 0 0, .slice none 0 0] 28) ∧ (wb_.setCell ⟨B, 0, none⟩ (.slice D5 (N - 1) d5)).heap[B]? = some (Obj.cells #[.slice D5 (N - 1) d5, .slice none 0 0, .slice none 0 0, .slice none 0 0, .slice none 0 0] 28) from
      ⟨(KP.out _ (by have := HS5.out; omega) (by omega)).trans HU.out.1, (KP.out _ (by have := HS5.out; omega) (by omega)).trans HU.out.2.1, V.set_at bu3 0 _⟩)
    have n1_ : Aside0 (Below w.heap.size w (wb_.setCell ⟨B, 0, none⟩ (.slice D5 (N - 1) d5))) := ⟨(HB3.out.trans (HBb.out.mono (by rw [← HES.out]; exact HB3.out.size))).setCell (by show w.heap.size ≤ B; omega) _⟩
    have n2_ : Aside0 (B < (wb_.setCell ⟨B, 0, none⟩ (.slice D5 (N - 1) d5)).heap.size) := ⟨by have := HSZ.out; have := HS5.out; omega⟩
    clear bu3 HU HB3 HZ t0 u0 t1 u1 t2 u2 uf2 hHeld HO1 HO2 HBa HBb HBd QT QD hpc hnc hn1c HT_ HW_ KP HES
    have HU := n0_
    have HB3 := n1_
    have HZ := n2_
    clear n0_ n1_ n2_
    generalize (wb_.setCell ⟨B, 0, none⟩ (.slice D5 (N - 1) d5)) = W1 at HU HB3 HZ HSZ HR5 ⊢
    have HSZ5 := HSZ
    clear HSZ
    (try go_wp2)
    have t0 : W1.cell? ⟨w.heap.size, 1, none⟩ = some (.slice A1 N c1) := by rw [blk_cell HU.out.1]; rfl
    have u0 : W1.cell? ⟨B, 1, none⟩ = some (.slice none 0 0) := by rw [blk_cell HU.out.2.2]; rfl
    have hpc := HP.out.2.1
    have QT : Aside0 (∀ W, Below w.heap.size w W → Kd.C (Kd.int .i64) W A1 n (t.vs.take n)) := ⟨fun W hW => by
      have h0 := Kd.C_take (m := n) (Kd.C_below HQ.out.2.1 hW) (by have := HE.out.2.1; omega)
      have el := HE.out.2.1
      rwa [show (t.vs.take n).length = n by rw [List.length_take]; omega] at h0⟩
    have QD : Aside0 (∀ W, Below w.heap.size w W → Kd.C (Kd.int .i64) W (if c1 = n1 then A1 else A1.map (·.add n1)) (N - n1) (t.vs.drop n1)) := ⟨fun W hW => by
      have el := HE.out.2.1
      have h0 := Kd.C_drop (m := n1) (c := c1) (Kd.C_below HQ.out.2.1 hW) (by omega) (by omega)
      rw [show n1 * ((Kd.int .i64)).sz = n1 from Nat.mul_one _] at h0
      rwa [show (t.vs.drop n1).length = N - n1 by rw [List.length_drop]; omega] at h0⟩
    have hnc : n ≤ c1 := by omega
    have hn1c : n1 ≤ c1 := by omega
    obtain ⟨S6, eS6⟩ : ∃ S, W1.heap.size = S := ⟨_, rfl⟩
    have HS6 := Aside0.mk (show B < S6 from by rw [← eS6]; exact HZ.out)
    have HBd : Aside0 (Below S6 W1 W1.drew) := ⟨below_drew (Below.refl _ _)⟩
    have HES := Aside0.mk eS6
    rw [eS6] at HR5 HSZ5
    clear eS6
    refine start_ (n := 15) (S := fun w' => w'.cell? ⟨B, 1, none⟩ = some (.slice none 0 0) ∧ w'.cell? ⟨w.heap.size, 1, none⟩ = some (.slice A1 N c1)) (ds := [14]) #[false, false, false, false, false, false, false, false, false, false, false, false, false, false, false] (by kernel_rfl) rfl rfl ⟨u0, t0⟩ (fun hHeld => ?_); refine with_tabW del_tab6 del_bits6 (fun HT_ HW_ => ?_)
    obtain ⟨Wd, eWd⟩ : ∃ Wd, W1.drew = Wd := ⟨_, rfl⟩
    rw [eWd] at HBd hHeld ⊢
    clear eWd
    refine pure_ (i := 0) (N := some 39) (v := ?_) (a' := ?_) #[true, false, false, false, false, false, false, false, false, false, false, false, false, false, false] rfl rfl (any_of HT_.out (by kernel_rfl)) (fun _ _ _ h => h) (Or.inl ⟨by rfl, ?_⟩) ?_ ?_
    rotate_left
    · intro w'
      go_simp
      with_reducible rfl
    rotate_left
    · simp only [Act.put, List.setIfInBounds_toArray, List.set_cons_zero, List.set_cons_succ, i64_w, i32_w]
      rfl
    refine pure_ (i := 2) (N := some 41) (v := ?_) (a' := ?_) #[true, false, true, false, false, false, false, false, false, false, false, false, false, false, false] rfl rfl (any_of HT_.out (by kernel_rfl)) (fun _ _ _ h => h) (Or.inl ⟨by rfl, ?_⟩) ?_ ?_
    rotate_left
    · intro w'
      go_simp
      with_reducible rfl
    rotate_left
    · simp only [Act.put, List.setIfInBounds_toArray, List.set_cons_zero, List.set_cons_succ, i64_w, i32_w]
      rfl
    refine pure_ (i := 4) (N := some 43) (v := ?_) (a' := ?_) #[true, false, true, false, true, false, false, false, false, false, false, false, false, false, false] rfl rfl (any_of HT_.out (by kernel_rfl)) (fun _ _ _ h => h) (Or.inl ⟨by rfl, ?_⟩) ?_ ?_
    rotate_left
    · intro w'
      go_simp
      with_reducible rfl
    rotate_left
    · simp only [Act.put, List.setIfInBounds_toArray, List.set_cons_zero, List.set_cons_succ, i64_w, i32_w]
      rfl
    refine pure_ (i := 7) (N := some 46) (v := ?_) (a' := ?_) #[true, false, true, false, true, false, false, true, false, false, false, false, false, false, false] rfl rfl (any_of HT_.out (by kernel_rfl)) (fun _ _ _ h => h) (Or.inl ⟨by rfl, ?_⟩) ?_ ?_
    rotate_left
    · intro w'
      go_simp
      with_reducible rfl
    rotate_left
    · simp only [Act.put, List.setIfInBounds_toArray, List.set_cons_zero, List.set_cons_succ, i64_w, i32_w]
      rfl
    refine pure_ (i := 9) (N := some 48) (v := ?_) (a' := ?_) #[true, false, true, false, true, false, false, true, false, true, false, false, false, false, false] rfl rfl (any_of HT_.out (by kernel_rfl)) (fun _ _ _ h => h) (Or.inl ⟨by rfl, ?_⟩) ?_ ?_
    rotate_left
    · intro w'
      go_simp
      with_reducible rfl
    rotate_left
    · simp only [Act.put, List.setIfInBounds_toArray, List.set_cons_zero, List.set_cons_succ, i64_w, i32_w]
      rfl
    refine pure_ (i := 10) (N := some 49) (v := ?_) (a' := ?_) #[true, false, true, false, true, false, false, true, false, true, true, false, false, false, false] rfl rfl (any_of HT_.out (by kernel_rfl)) (fun _ _ _ h => h) (Or.inl ⟨by rfl, ?_⟩) ?_ ?_
    rotate_left
    · intro w'
      go_simp
      with_reducible rfl
    rotate_left
    · simp only [Act.put, List.setIfInBounds_toArray, List.set_cons_zero, List.set_cons_succ, i64_w, i32_w]
      rfl
    refine take_ (i := 1) (N := some 40) (v := ?_) (a' := ?_) #[true, true, true, false, true, false, false, true, false, true, true, false, false, false, false] rfl rfl (take_ofW HT_.out HW_.out (by kernel_rfl)) (fun _ _ _ h => h) (Or.inl ⟨by rfl, ?_⟩) hHeld ?_ ?_
    rotate_left
    · rintro w' ⟨s0, s1⟩
      go_simp
      with_reducible rfl
    rotate_left
    · simp only [Act.put, List.setIfInBounds_toArray, List.set_cons_zero, List.set_cons_succ, i64_w, i32_w]
      rfl
    refine take_ (i := 3) (N := some 42) (v := ?_) (a' := ?_) #[true, true, true, true, true, false, false, true, false, true, true, false, false, false, false] rfl rfl (take_ofW HT_.out HW_.out (by kernel_rfl)) (fun _ _ _ h => h) (Or.inl ⟨by rfl, ?_⟩) hHeld ?_ ?_
    rotate_left
    · rintro w' ⟨s0, s1⟩
      go_simp
      with_reducible rfl
    rotate_left
    · simp only [Act.put, List.setIfInBounds_toArray, List.set_cons_zero, List.set_cons_succ, i64_w, i32_w]
      rfl
    refine pure_ (i := 5) (N := some 44) (v := ?_) (a' := ?_) #[true, true, true, true, true, true, false, true, false, true, true, false, false, false, false] rfl rfl (any_of HT_.out (by kernel_rfl)) (fun _ _ _ h => h) (Or.inl ⟨by rfl, ?_⟩) ?_ ?_
    rotate_left
    · intro w'
      go_simp
      with_reducible rfl
    rotate_left
    · simp only [Act.put, List.setIfInBounds_toArray, List.set_cons_zero, List.set_cons_succ, i64_w, i32_w]
      rfl
    refine take_ (i := 8) (N := some 47) (v := ?_) (a' := ?_) #[true, true, true, true, true, true, false, true, true, true, true, false, false, false, false] rfl rfl (take_ofW HT_.out HW_.out (by kernel_rfl)) (fun _ _ _ h => h) (Or.inl ⟨by rfl, ?_⟩) hHeld ?_ ?_
    rotate_left
    · rintro w' ⟨s0, s1⟩
      go_simp
      with_reducible rfl
    rotate_left
    · simp only [Act.put, List.setIfInBounds_toArray, List.set_cons_zero, List.set_cons_succ, i64_w, i32_w]
      rfl
    refine pure_ (i := 11) (N := some 50) (v := ?_) (a' := ?_) #[true, true, true, true, true, true, false, true, true, true, true, true, false, false, false] rfl rfl (any_of HT_.out (by kernel_rfl)) (fun _ _ _ h => h) (Or.inl ⟨by rfl, ?_⟩) ?_ ?_
    rotate_left
    · intro w'
      go_simp
      with_reducible rfl
    rotate_left
    · simp only [Act.put, List.setIfInBounds_toArray, List.set_cons_zero, List.set_cons_succ, i64_w, i32_w]
      rfl
    refine one_ (i := 6) (N := some 45) #[true, true, true, true, true, true, true, true, true, true, true, true, false, false, false] rfl rfl (one_of HT_.out (by kernel_rfl)) (by decide) (fun K hK => ?_)
    refine Kd.R_append_rows_step (Kd.int .i64) (w0 := W1) S6 (by rfl) (.tmp 40) (.tmp 44) 26 3 (.int .i64 0) 8 rfl Try.underlying26 info3 rfl (by decide) (by omega) (.slice none 0 0) ([] : List Int) (t.vs.take n) _ _ _ (fun _ => True) (fun _ => False) rfl rfl (Kd.R_nil _ _ _ _ _) (QT.out _ (HB3.out.trans (HBd.out.mono (by rw [← HES.out]; exact HB3.out.size)))) (fun _ _ h => h) (fun _ h => h.elim) (fun _ _ => trivial) HBd.out (by have := HBd.out.size; rw [HES.out] at this; exact this) (by rw [List.length_nil]; omega) ?_
    intro v1_ wa_ ho hb hg hat
    have HO1 := Aside0.mk ho
    have HBa := Aside0.mk hb
    have t1 : wa_.cell? ⟨w.heap.size, 1, none⟩ = some (.slice A1 N c1) := (World.cell?_of_block (hb.block w.heap.size (by have := HS6.out; omega))).trans t0
    have u1 : wa_.cell? ⟨B, 1, none⟩ = some (.slice none 0 0) := (World.cell?_of_block (hb.block B HS6.out)).trans u0
    clear ho hb hg hat hHeld
    refine hK.out _ _ ⟨u1, t1⟩ (fun hHeld => ?_)
    clear hK K
    refine norm_ (a' := ?_) ?_ ?_
    rotate_left
    · show Act.put _ (some 45) _ = _
      simp only [Act.put, List.setIfInBounds_toArray, List.set_cons_zero, List.set_cons_succ, i64_w, i32_w]
      rfl
    refine one_ (i := 12) (N := some 51) #[true, true, true, true, true, true, true, true, true, true, true, true, true, false, false] rfl rfl (one_of HT_.out (by kernel_rfl)) (by decide) (fun K hK => ?_)
    refine Kd.R_append_rows_step (Kd.int .i64) (w0 := W1) S6 (by rfl) (.tmp 45) (.tmp 50) 26 3 (.int .i64 0) 8 rfl Try.underlying26 info3 rfl (by decide) (by omega) v1_ (t.vs.take n) (t.vs.drop n1) _ _ _ (fun _ => True) (fun _ => False) rfl rfl (by first | exact HO1.out | exact Kd.R_drew HO1.out) (QD.out _ (HB3.out.trans (Below.mono (by first | exact HBa.out | exact below_drew HBa.out) (by rw [← HES.out]; exact HB3.out.size)))) (fun _ _ h => h) (fun _ h => h.elim) (fun _ _ => trivial) (by first | exact HBa.out | exact below_drew HBa.out) (by have := HBa.out.size; rw [HES.out] at this; exact this) (by rw [List.length_take]; have := HE.out.2.1; omega) ?_
    intro v6_ wb_ ho hb hg hat
    obtain ⟨D6, d6, rfl⟩ := Kd.R_slice ho
    have elc : (t.vs.take n ++ t.vs.drop n1).length = N - 1 := by rw [List.length_append, List.length_take, List.length_drop]; have := HE.out.2.1; omega
    rw [elc] at ho
    rw [elc]
    clear elc
    have HO2 := Aside0.mk ho
    have HBb := Aside0.mk hb
    have t2 : wb_.cell? ⟨w.heap.size, 1, none⟩ = some (.slice A1 N c1) := (World.cell?_of_block (hb.block w.heap.size (by have := HS6.out; omega))).trans t0
    have u2 : wb_.cell? ⟨B, 1, none⟩ = some (.slice none 0 0) := (World.cell?_of_block (hb.block B HS6.out)).trans u0
    have bu2 := (hb.block B HS6.out).trans HU.out.2.2
    have uf2 : wb_.frozen? ⟨B, 1, none⟩ = false := by simp [World.frozen?, bu2]
    clear bu2 ho hb hg hat hHeld
    refine hK.out _ _ ⟨u2, t2⟩ (fun hHeld => ?_)
    clear hK K
    refine norm_ (a' := ?_) ?_ ?_
    rotate_left
    · show Act.put _ (some 51) _ = _
      simp only [Act.put, List.setIfInBounds_toArray, List.set_cons_zero, List.set_cons_succ, i64_w, i32_w]
      rfl
    refine pure_ (i := 13) (N := some 52) (v := ?_) (a' := ?_) #[true, true, true, true, true, true, true, true, true, true, true, true, true, true, false] rfl rfl (any_of HT_.out (by kernel_rfl)) (fun _ _ _ h => h) (Or.inl ⟨by rfl, ?_⟩) ?_ ?_
    rotate_left
    · intro w'
      go_simp
      with_reducible rfl
    rotate_left
    · simp only [Act.put, List.setIfInBounds_toArray, List.set_cons_zero, List.set_cons_succ, i64_w, i32_w]
      rfl
    refine last_ (i := 14) (N := none) #[true, true, true, true, true, true, true, true, true, true, true, true, true, true, true] rfl rfl (one_of HT_.out (by kernel_rfl)) (by decide) (fun K hK => ?_)
    refine skip_ (w1 := ?_) (by rfl) rfl ?_ ?_
    rotate_left
    · go_simp
      rfl
    refine hK.out _ _ ?_
    clear hK K
    refine done_ (done_of HT_.out (by kernel_rfl)) ?_
    generalize (if c1 = n1 then A1 else Option.map (fun x => x.add n1) A1) = X6
    have KP : Aside0 (∀ k, k < S6 → k ≠ B → (wb_.setCell ⟨B, 1, none⟩ (.slice D6 (N - 1) d6)).heap[k]? = W1.heap[k]?) := ⟨fun k h1 h2 => (Below.heap_setCell _ _ _ k (by exact h2)).trans (HBb.out.block k h1)⟩
    have HSZ : Aside0 (S6 ≤ (wb_.setCell ⟨B, 1, none⟩ (.slice D6 (N - 1) d6)).heap.size) := ⟨by rw [T.size_setCell]; have := HBb.out.size; rw [HES.out] at this; exact this⟩
    have bu3 := (HBb.out.block B HS6.out).trans HU.out.2.2
    have HR6 : Aside0 (Kd.R (Kd.int .i64) 3 (wb_.setCell ⟨B, 1, none⟩ (.slice D6 (N - 1) d6)) S6 (fun k => S6 ≤ k ∧ k < (wb_.setCell ⟨B, 1, none⟩ (.slice D6 (N - 1) d6)).heap.size) (.slice D6 (N - 1) d6) (cutAt t.vs n)) := ⟨by
      have e0 : t.vs.take n ++ t.vs.drop n1 = cutAt t.vs n := by rw [← en1]; rfl
      have h0 := Kd.R_set HO2.out bu3 (by decide) 1 (.slice D6 (N - 1) d6)
      rw [e0] at h0
      exact Kd.R_mono (Kd.R_bound h0) (fun k hk => ⟨hk.2.1, hk.2.2.1⟩)⟩
    have n0_ := Aside0.mk (show (wb_.setCell ⟨B, 1, none⟩ (.slice D6 (N - 1) d6)).heap[w.heap.size]? = some (.cells #[.slice A0 N c0, .slice A1 N c1, .slice A2 N c2, .slice A3 M3 c3, .slice A4 M4 c4] 28 (0, 0)) ∧ (wb_.setCell ⟨B, 1, none⟩ (.slice D6 (N - 1) d6)).heap[w.heap.size + 1]? = some (Obj.cells #[.slice none 0 0, .slice none 0 0, .slice none 0 0, .slice none 0 0, .slice none 0 0] 28) ∧ (wb_.setCell ⟨B, 1, none⟩ (.slice D6 (N - 1) d6)).heap[B]? = some (Obj.cells #[.slice D5 (N - 1) d5, .slice D6 (N - 1) d6, .slice none 0 0, .slice none 0 0, .slice none 0 0] 28) from
      ⟨(KP.out _ (by have := HS6.out; omega) (by omega)).trans HU.out.1, (KP.out _ (by have := HS6.out; omega) (by omega)).trans HU.out.2.1, V.set_at bu3 1 _⟩)
    have n1_ : Aside0 (Below w.heap.size w (wb_.setCell ⟨B, 1, none⟩ (.slice D6 (N - 1) d6))) := ⟨(HB3.out.trans (HBb.out.mono (by rw [← HES.out]; exact HB3.out.size))).setCell (by show w.heap.size ≤ B; omega) _⟩
    have m5_ := Aside0.mk (Kd.R_step HR5.out (fun k hk hlt => KP.out k (by have := hk.2; have := HSZ5.out; omega) (by have := hk.1; have := HS5.out; omega)))
    clear HR5
    have HR5 := m5_
    clear m5_
    have n2_ : Aside0 (B < (wb_.setCell ⟨B, 1, none⟩ (.slice D6 (N - 1) d6)).heap.size) := ⟨by have := HSZ.out; have := HS6.out; omega⟩
    clear bu3 HU HB3 HZ t0 u0 t1 u1 t2 u2 uf2 hHeld HO1 HO2 HBa HBb HBd QT QD hpc hnc hn1c HT_ HW_ KP HES
    have HU := n0_
    have HB3 := n1_
    have HZ := n2_
    clear n0_ n1_ n2_
    generalize (wb_.setCell ⟨B, 1, none⟩ (.slice D6 (N - 1) d6)) = W2 at HU HB3 HZ HSZ HR5 HR6 ⊢
    have HSZ6 := HSZ
    clear HSZ
    (try go_wp2)
    have t0 : W2.cell? ⟨w.heap.size, 2, none⟩ = some (.slice A2 N c2) := by rw [blk_cell HU.out.1]; rfl
    have u0 : W2.cell? ⟨B, 2, none⟩ = some (.slice none 0 0) := by rw [blk_cell HU.out.2.2]; rfl
    have hpc := HP.out.2.2.1
    have QT : Aside0 (∀ W, Below w.heap.size w W → Kd.C (Kd.int .i64) W A2 n (t.ls.take n)) := ⟨fun W hW => by
      have h0 := Kd.C_take (m := n) (Kd.C_below HQ.out.2.2.1 hW) (by have := HE.out.2.2.1; omega)
      have el := HE.out.2.2.1
      rwa [show (t.ls.take n).length = n by rw [List.length_take]; omega] at h0⟩
    have QD : Aside0 (∀ W, Below w.heap.size w W → Kd.C (Kd.int .i64) W (if c2 = n1 then A2 else A2.map (·.add n1)) (N - n1) (t.ls.drop n1)) := ⟨fun W hW => by
      have el := HE.out.2.2.1
      have h0 := Kd.C_drop (m := n1) (c := c2) (Kd.C_below HQ.out.2.2.1 hW) (by omega) (by omega)
      rw [show n1 * ((Kd.int .i64)).sz = n1 from Nat.mul_one _] at h0
      rwa [show (t.ls.drop n1).length = N - n1 by rw [List.length_drop]; omega] at h0⟩
    have hnc : n ≤ c2 := by omega
    have hn1c : n1 ≤ c2 := by omega
    obtain ⟨S7, eS7⟩ : ∃ S, W2.heap.size = S := ⟨_, rfl⟩
    have HS7 := Aside0.mk (show B < S7 from by rw [← eS7]; exact HZ.out)
    have HBd : Aside0 (Below S7 W2 W2.drew) := ⟨below_drew (Below.refl _ _)⟩
    have HES := Aside0.mk eS7
    rw [eS7] at HR6 HSZ6
    clear eS7
    refine start_ (n := 15) (S := fun w' => w'.cell? ⟨B, 2, none⟩ = some (.slice none 0 0) ∧ w'.cell? ⟨w.heap.size, 2, none⟩ = some (.slice A2 N c2)) (ds := [14]) #[false, false, false, false, false, false, false, false, false, false, false, false, false, false, false] (by kernel_rfl) rfl rfl ⟨u0, t0⟩ (fun hHeld => ?_); refine with_tabW del_tab7 del_bits7 (fun HT_ HW_ => ?_)
    obtain ⟨Wd, eWd⟩ : ∃ Wd, W2.drew = Wd := ⟨_, rfl⟩
    rw [eWd] at HBd hHeld ⊢
    clear eWd
    refine pure_ (i := 0) (N := some 53) (v := ?_) (a' := ?_) #[true, false, false, false, false, false, false, false, false, false, false, false, false, false, false] rfl rfl (any_of HT_.out (by kernel_rfl)) (fun _ _ _ h => h) (Or.inl ⟨by rfl, ?_⟩) ?_ ?_
    rotate_left
    · intro w'
      go_simp
      with_reducible rfl
    rotate_left
    · simp only [Act.put, List.setIfInBounds_toArray, List.set_cons_zero, List.set_cons_succ, i64_w, i32_w]
      rfl
    refine pure_ (i := 2) (N := some 55) (v := ?_) (a' := ?_) #[true, false, true, false, false, false, false, false, false, false, false, false, false, false, false] rfl rfl (any_of HT_.out (by kernel_rfl)) (fun _ _ _ h => h) (Or.inl ⟨by rfl, ?_⟩) ?_ ?_
    rotate_left
    · intro w'
      go_simp
      with_reducible rfl
    rotate_left
    · simp only [Act.put, List.setIfInBounds_toArray, List.set_cons_zero, List.set_cons_succ, i64_w, i32_w]
      rfl
    refine pure_ (i := 4) (N := some 57) (v := ?_) (a' := ?_) #[true, false, true, false, true, false, false, false, false, false, false, false, false, false, false] rfl rfl (any_of HT_.out (by kernel_rfl)) (fun _ _ _ h => h) (Or.inl ⟨by rfl, ?_⟩) ?_ ?_
    rotate_left
    · intro w'
      go_simp
      with_reducible rfl
    rotate_left
    · simp only [Act.put, List.setIfInBounds_toArray, List.set_cons_zero, List.set_cons_succ, i64_w, i32_w]
      rfl
    refine pure_ (i := 7) (N := some 60) (v := ?_) (a' := ?_) #[true, false, true, false, true, false, false, true, false, false, false, false, false, false, false] rfl rfl (any_of HT_.out (by kernel_rfl)) (fun _ _ _ h => h) (Or.inl ⟨by rfl, ?_⟩) ?_ ?_
    rotate_left
    · intro w'
      go_simp
      with_reducible rfl
    rotate_left
    · simp only [Act.put, List.setIfInBounds_toArray, List.set_cons_zero, List.set_cons_succ, i64_w, i32_w]
      rfl
    refine pure_ (i := 9) (N := some 62) (v := ?_) (a' := ?_) #[true, false, true, false, true, false, false, true, false, true, false, false, false, false, false] rfl rfl (any_of HT_.out (by kernel_rfl)) (fun _ _ _ h => h) (Or.inl ⟨by rfl, ?_⟩) ?_ ?_
    rotate_left
    · intro w'
      go_simp
      with_reducible rfl
    rotate_left
    · simp only [Act.put, List.setIfInBounds_toArray, List.set_cons_zero, List.set_cons_succ, i64_w, i32_w]
      rfl
    refine pure_ (i := 10) (N := some 63) (v := ?_) (a' := ?_) #[true, false, true, false, true, false, false, true, false, true, true, false, false, false, false] rfl rfl (any_of HT_.out (by kernel_rfl)) (fun _ _ _ h => h) (Or.inl ⟨by rfl, ?_⟩) ?_ ?_
    rotate_left
    · intro w'
      go_simp
      with_reducible rfl
    rotate_left
    · simp only [Act.put, List.setIfInBounds_toArray, List.set_cons_zero, List.set_cons_succ, i64_w, i32_w]
      rfl
    refine take_ (i := 1) (N := some 54) (v := ?_) (a' := ?_) #[true, true, true, false, true, false, false, true, false, true, true, false, false, false, false] rfl rfl (take_ofW HT_.out HW_.out (by kernel_rfl)) (fun _ _ _ h => h) (Or.inl ⟨by rfl, ?_⟩) hHeld ?_ ?_
    rotate_left
    · rintro w' ⟨s0, s1⟩
      go_simp
      with_reducible rfl
    rotate_left
    · simp only [Act.put, List.setIfInBounds_toArray, List.set_cons_zero, List.set_cons_succ, i64_w, i32_w]
      rfl
    refine take_ (i := 3) (N := some 56) (v := ?_) (a' := ?_) #[true, true, true, true, true, false, false, true, false, true, true, false, false, false, false] rfl rfl (take_ofW HT_.out HW_.out (by kernel_rfl)) (fun _ _ _ h => h) (Or.inl ⟨by rfl, ?_⟩) hHeld ?_ ?_
    rotate_left
    · rintro w' ⟨s0, s1⟩
      go_simp
      with_reducible rfl
    rotate_left
    · simp only [Act.put, List.setIfInBounds_toArray, List.set_cons_zero, List.set_cons_succ, i64_w, i32_w]
      rfl
    refine pure_ (i := 5) (N := some 58) (v := ?_) (a' := ?_) #[true, true, true, true, true, true, false, true, false, true, true, false, false, false, false] rfl rfl (any_of HT_.out (by kernel_rfl)) (fun _ _ _ h => h) (Or.inl ⟨by rfl, ?_⟩) ?_ ?_
    rotate_left
    · intro w'
      go_simp
      with_reducible rfl
    rotate_left
    · simp only [Act.put, List.setIfInBounds_toArray, List.set_cons_zero, List.set_cons_succ, i64_w, i32_w]
      rfl
    refine take_ (i := 8) (N := some 61) (v := ?_) (a' := ?_) #[true, true, true, true, true, true, false, true, true, true, true, false, false, false, false] rfl rfl (take_ofW HT_.out HW_.out (by kernel_rfl)) (fun _ _ _ h => h) (Or.inl ⟨by rfl, ?_⟩) hHeld ?_ ?_
    rotate_left
    · rintro w' ⟨s0, s1⟩
      go_simp
      with_reducible rfl
    rotate_left
    · simp only [Act.put, List.setIfInBounds_toArray, List.set_cons_zero, List.set_cons_succ, i64_w, i32_w]
      rfl
    refine pure_ (i := 11) (N := some 64) (v := ?_) (a' := ?_) #[true, true, true, true, true, true, false, true, true, true, true, true, false, false, false] rfl rfl (any_of HT_.out (by kernel_rfl)) (fun _ _ _ h => h) (Or.inl ⟨by rfl, ?_⟩) ?_ ?_
    rotate_left
    · intro w'
      go_simp
      with_reducible rfl
    rotate_left
    · simp only [Act.put, List.setIfInBounds_toArray, List.set_cons_zero, List.set_cons_succ, i64_w, i32_w]
      rfl
    refine one_ (i := 6) (N := some 59) #[true, true, true, true, true, true, true, true, true, true, true, true, false, false, false] rfl rfl (one_of HT_.out (by kernel_rfl)) (by decide) (fun K hK => ?_)
    refine Kd.R_append_rows_step (Kd.int .i64) (w0 := W2) S7 (by rfl) (.tmp 54) (.tmp 58) 26 3 (.int .i64 0) 8 rfl Try.underlying26 info3 rfl (by decide) (by omega) (.slice none 0 0) ([] : List Int) (t.ls.take n) _ _ _ (fun _ => True) (fun _ => False) rfl rfl (Kd.R_nil _ _ _ _ _) (QT.out _ (HB3.out.trans (HBd.out.mono (by rw [← HES.out]; exact HB3.out.size)))) (fun _ _ h => h) (fun _ h => h.elim) (fun _ _ => trivial) HBd.out (by have := HBd.out.size; rw [HES.out] at this; exact this) (by rw [List.length_nil]; omega) ?_
    intro v1_ wa_ ho hb hg hat
    have HO1 := Aside0.mk ho
    have HBa := Aside0.mk hb
    have t1 : wa_.cell? ⟨w.heap.size, 2, none⟩ = some (.slice A2 N c2) := (World.cell?_of_block (hb.block w.heap.size (by have := HS7.out; omega))).trans t0
    have u1 : wa_.cell? ⟨B, 2, none⟩ = some (.slice none 0 0) := (World.cell?_of_block (hb.block B HS7.out)).trans u0
    clear ho hb hg hat hHeld
    refine hK.out _ _ ⟨u1, t1⟩ (fun hHeld => ?_)
    clear hK K
    refine norm_ (a' := ?_) ?_ ?_
    rotate_left
    · show Act.put _ (some 59) _ = _
      simp only [Act.put, List.setIfInBounds_toArray, List.set_cons_zero, List.set_cons_succ, i64_w, i32_w]
      rfl
    refine one_ (i := 12) (N := some 65) #[true, true, true, true, true, true, true, true, true, true, true, true, true, false, false] rfl rfl (one_of HT_.out (by kernel_rfl)) (by decide) (fun K hK => ?_)
    refine Kd.R_append_rows_step (Kd.int .i64) (w0 := W2) S7 (by rfl) (.tmp 59) (.tmp 64) 26 3 (.int .i64 0) 8 rfl Try.underlying26 info3 rfl (by decide) (by omega) v1_ (t.ls.take n) (t.ls.drop n1) _ _ _ (fun _ => True) (fun _ => False) rfl rfl (by first | exact HO1.out | exact Kd.R_drew HO1.out) (QD.out _ (HB3.out.trans (Below.mono (by first | exact HBa.out | exact below_drew HBa.out) (by rw [← HES.out]; exact HB3.out.size)))) (fun _ _ h => h) (fun _ h => h.elim) (fun _ _ => trivial) (by first | exact HBa.out | exact below_drew HBa.out) (by have := HBa.out.size; rw [HES.out] at this; exact this) (by rw [List.length_take]; have := HE.out.2.2.1; omega) ?_
    intro v7_ wb_ ho hb hg hat
    obtain ⟨D7, d7, rfl⟩ := Kd.R_slice ho
    have elc : (t.ls.take n ++ t.ls.drop n1).length = N - 1 := by rw [List.length_append, List.length_take, List.length_drop]; have := HE.out.2.2.1; omega
    rw [elc] at ho
    rw [elc]
    clear elc
    have HO2 := Aside0.mk ho
    have HBb := Aside0.mk hb
    have t2 : wb_.cell? ⟨w.heap.size, 2, none⟩ = some (.slice A2 N c2) := (World.cell?_of_block (hb.block w.heap.size (by have := HS7.out; omega))).trans t0
    have u2 : wb_.cell? ⟨B, 2, none⟩ = some (.slice none 0 0) := (World.cell?_of_block (hb.block B HS7.out)).trans u0
    have bu2 := (hb.block B HS7.out).trans HU.out.2.2
    have uf2 : wb_.frozen? ⟨B, 2, none⟩ = false := by simp [World.frozen?, bu2]
    clear bu2 ho hb hg hat hHeld
    refine hK.out _ _ ⟨u2, t2⟩ (fun hHeld => ?_)
    clear hK K
    refine norm_ (a' := ?_) ?_ ?_
    rotate_left
    · show Act.put _ (some 65) _ = _
      simp only [Act.put, List.setIfInBounds_toArray, List.set_cons_zero, List.set_cons_succ, i64_w, i32_w]
      rfl
    refine pure_ (i := 13) (N := some 66) (v := ?_) (a' := ?_) #[true, true, true, true, true, true, true, true, true, true, true, true, true, true, false] rfl rfl (any_of HT_.out (by kernel_rfl)) (fun _ _ _ h => h) (Or.inl ⟨by rfl, ?_⟩) ?_ ?_
    rotate_left
    · intro w'
      go_simp
      with_reducible rfl
    rotate_left
    · simp only [Act.put, List.setIfInBounds_toArray, List.set_cons_zero, List.set_cons_succ, i64_w, i32_w]
      rfl
    refine last_ (i := 14) (N := none) #[true, true, true, true, true, true, true, true, true, true, true, true, true, true, true] rfl rfl (one_of HT_.out (by kernel_rfl)) (by decide) (fun K hK => ?_)
    refine skip_ (w1 := ?_) (by rfl) rfl ?_ ?_
    rotate_left
    · go_simp
      rfl
    refine hK.out _ _ ?_
    clear hK K
    refine done_ (done_of HT_.out (by kernel_rfl)) ?_
    generalize (if c2 = n1 then A2 else Option.map (fun x => x.add n1) A2) = X7
    have KP : Aside0 (∀ k, k < S7 → k ≠ B → (wb_.setCell ⟨B, 2, none⟩ (.slice D7 (N - 1) d7)).heap[k]? = W2.heap[k]?) := ⟨fun k h1 h2 => (Below.heap_setCell _ _ _ k (by exact h2)).trans (HBb.out.block k h1)⟩
    have HSZ : Aside0 (S7 ≤ (wb_.setCell ⟨B, 2, none⟩ (.slice D7 (N - 1) d7)).heap.size) := ⟨by rw [T.size_setCell]; have := HBb.out.size; rw [HES.out] at this; exact this⟩
    have bu3 := (HBb.out.block B HS7.out).trans HU.out.2.2
    have HR7 : Aside0 (Kd.R (Kd.int .i64) 3 (wb_.setCell ⟨B, 2, none⟩ (.slice D7 (N - 1) d7)) S7 (fun k => S7 ≤ k ∧ k < (wb_.setCell ⟨B, 2, none⟩ (.slice D7 (N - 1) d7)).heap.size) (.slice D7 (N - 1) d7) (cutAt t.ls n)) := ⟨by
      have e0 : t.ls.take n ++ t.ls.drop n1 = cutAt t.ls n := by rw [← en1]; rfl
      have h0 := Kd.R_set HO2.out bu3 (by decide) 2 (.slice D7 (N - 1) d7)
      rw [e0] at h0
      exact Kd.R_mono (Kd.R_bound h0) (fun k hk => ⟨hk.2.1, hk.2.2.1⟩)⟩
    have n0_ := Aside0.mk (show (wb_.setCell ⟨B, 2, none⟩ (.slice D7 (N - 1) d7)).heap[w.heap.size]? = some (.cells #[.slice A0 N c0, .slice A1 N c1, .slice A2 N c2, .slice A3 M3 c3, .slice A4 M4 c4] 28 (0, 0)) ∧ (wb_.setCell ⟨B, 2, none⟩ (.slice D7 (N - 1) d7)).heap[w.heap.size + 1]? = some (Obj.cells #[.slice none 0 0, .slice none 0 0, .slice none 0 0, .slice none 0 0, .slice none 0 0] 28) ∧ (wb_.setCell ⟨B, 2, none⟩ (.slice D7 (N - 1) d7)).heap[B]? = some (Obj.cells #[.slice D5 (N - 1) d5, .slice D6 (N - 1) d6, .slice D7 (N - 1) d7, .slice none 0 0, .slice none 0 0] 28) from
      ⟨(KP.out _ (by have := HS7.out; omega) (by omega)).trans HU.out.1, (KP.out _ (by have := HS7.out; omega) (by omega)).trans HU.out.2.1, V.set_at bu3 2 _⟩)
    have n1_ : Aside0 (Below w.heap.size w (wb_.setCell ⟨B, 2, none⟩ (.slice D7 (N - 1) d7))) := ⟨(HB3.out.trans (HBb.out.mono (by rw [← HES.out]; exact HB3.out.size))).setCell (by show w.heap.size ≤ B; omega) _⟩
    have m5_ := Aside0.mk (Kd.R_step HR5.out (fun k hk hlt => KP.out k (by have := hk.2; have := HSZ5.out; have := HSZ6.out; omega) (by have := hk.1; have := HS5.out; omega)))
    clear HR5
    have HR5 := m5_
    clear m5_
    have m6_ := Aside0.mk (Kd.R_step HR6.out (fun k hk hlt => KP.out k (by have := hk.2; have := HSZ5.out; have := HSZ6.out; omega) (by have := hk.1; have := HS6.out; omega)))
    clear HR6
    have HR6 := m6_
    clear m6_
    have n2_ : Aside0 (B < (wb_.setCell ⟨B, 2, none⟩ (.slice D7 (N - 1) d7)).heap.size) := ⟨by have := HSZ.out; have := HS7.out; omega⟩
    clear bu3 HU HB3 HZ t0 u0 t1 u1 t2 u2 uf2 hHeld HO1 HO2 HBa HBb HBd QT QD hpc hnc hn1c HT_ HW_ KP HES
    have HU := n0_
    have HB3 := n1_
    have HZ := n2_
    clear n0_ n1_ n2_
    generalize (wb_.setCell ⟨B, 2, none⟩ (.slice D7 (N - 1) d7)) = W3 at HU HB3 HZ HSZ HR5 HR6 HR7 ⊢
    have HSZ7 := HSZ
    clear HSZ
    have hn' : n < t.ks.length := by rw [HE.out.1]; exact hn
    have hrp := HF.out.2.2.2.2
    have hn'2 : n < t.vs.length := by rw [HE.out.2.1]; exact hn
    obtain ⟨P, Mk, nx', r1, r2, r3⟩ := delete_ex2 t hrp n hn' a nx (by rw [HE.out.1]; exact hNl)
    obtain ⟨kk, hkk⟩ := r1.rounds
    have HD := Aside0.mk (And.intro r2 r3)
    have hMP : ∀ k, k < w.heap.size → ¬ ((S5 ≤ k ∧ k < S6) ∨ (S6 ≤ k ∧ k < S7) ∨ (S7 ≤ k ∧ k < W3.heap.size)) := fun k hk => by have := HS5.out; have := HS6.out; have := HS7.out; omega
    have HC : Aside0 (∀ W_, Go.Proofs.YtjhgknagmiekeaaW.PrintWords.Kept W3 W_ (fun k_ => (S5 ≤ k_ ∧ k_ < S6) ∨ (S6 ≤ k_ ∧ k_ < S7) ∨ (S7 ≤ k_ ∧ k_ < W3.heap.size)) → RtAt W_ t (.slice A0 N c0) (.slice A1 N c1) (.slice A2 N c2) (.slice A3 M3 c3) (.slice A4 M4 c4)) := ⟨fun W_ hk => by
      have h0 := HM.out W_ (Nat.le_trans HB3.out.size hk.1) (fun k h1 _ => (hk.2 k (Nat.lt_of_lt_of_le h1 HB3.out.size) (hMP k h1)).trans (HB3.out.block k h1))
      rw [HE.out.1, HE.out.2.1, HE.out.2.2.1, HE.out.2.2.2.1, HE.out.2.2.2.2] at h0
      exact h0⟩
    have q := musterref03_remade.calls kk A0 c0 t.ks A1 c1 t.vs A2 c2 t.ls A3 c3 t.ps A4 c4 t.ms (fun k => S5 ≤ k ∧ k < S6) (.slice D5 (N - 1) d5) (cutAt t.ks n) (fun k => S6 ≤ k ∧ k < S7) (.slice D6 (N - 1) d6) (cutAt t.vs n) (fun k => S7 ≤ k ∧ k < W3.heap.size) (.slice D7 (N - 1) d7) (cutAt t.ls n) none 0 [] none 0 [] a nx _ _ _ _ _ _ w W3 HB3.out
      (fun W_ hk => (HC.out W_ hk).a0.c) (by rw [HE.out.1]; exact HP.out.1) (fun W_ hk => (HC.out W_ hk).a1.c) (by rw [HE.out.2.1]; exact HP.out.2.1) (fun W_ hk => (HC.out W_ hk).a2.c) (by rw [HE.out.2.2.1]; exact HP.out.2.2.1) (fun W_ hk => (HC.out W_ hk).a3.c) (by rw [HE.out.2.2.2.1]; exact HP.out.2.2.2.1) (fun W_ hk => (HC.out W_ hk).a4.c) (by rw [HE.out.2.2.2.2]; exact HP.out.2.2.2.2)
      (Kd.R_lower HR5.out (by have := HS5.out; omega)) (Kd.R_lower HR6.out (by have := HS6.out; omega)) (fun k h1 h2 => by have := h1.2; have := h2.1; omega) (Kd.R_lower HR7.out (by have := HS7.out; omega)) (fun k h1 h2 => by have := h1.1; have := h2.2; omega)
      (fun W_ _ => Kd.C_nil _ _) (Nat.le_refl _) (fun W_ _ => Kd.C_nil _ _) (Nat.le_refl _) hkk
    rw [HE.out.1, HE.out.2.1, HE.out.2.2.1, HE.out.2.2.2.1, HE.out.2.2.2.2] at q
    have QR := Aside0.mk q
    clear q hkk r1 r2 r3 hMP
    have bt := HU.out.1
    have bu := HU.out.2.2
    have m0 : W3.cell? ⟨w.heap.size, 0, none⟩ = some (.slice A0 N c0) := by rw [blk_cell bt]; rfl
    have u0 : W3.cell? ⟨B, 0, none⟩ = some (.slice D5 (N - 1) d5) := by rw [blk_cell bu]; rfl
    have m1 : W3.cell? ⟨w.heap.size, 1, none⟩ = some (.slice A1 N c1) := by rw [blk_cell bt]; rfl
    have u1 : W3.cell? ⟨B, 1, none⟩ = some (.slice D6 (N - 1) d6) := by rw [blk_cell bu]; rfl
    have m2 : W3.cell? ⟨w.heap.size, 2, none⟩ = some (.slice A2 N c2) := by rw [blk_cell bt]; rfl
    have u2 : W3.cell? ⟨B, 2, none⟩ = some (.slice D7 (N - 1) d7) := by rw [blk_cell bu]; rfl
    have m3 : W3.cell? ⟨w.heap.size, 3, none⟩ = some (.slice A3 M3 c3) := by rw [blk_cell bt]; rfl
    have u3 : W3.cell? ⟨B, 3, none⟩ = some (.slice none 0 0) := by rw [blk_cell bu]; rfl
    have m4 : W3.cell? ⟨w.heap.size, 4, none⟩ = some (.slice A4 M4 c4) := by rw [blk_cell bt]; rfl
    have u4 : W3.cell? ⟨B, 4, none⟩ = some (.slice none 0 0) := by rw [blk_cell bu]; rfl
    clear bt bu
    go_wp2_with (go_at_call 92; refine QR.out.mono ?_)
    rintro e W4 ⟨x0, x1, x2, x3, x4, rfl, R0, R1, R2, R3, R4, hb4, hk4⟩
    obtain ⟨E0, g0, rfl⟩ := Kd.R_slice R0
    obtain ⟨E1, g1, rfl⟩ := Kd.R_slice R1
    obtain ⟨E2, g2, rfl⟩ := Kd.R_slice R2
    obtain ⟨E3, g3, rfl⟩ := Kd.R_slice R3
    obtain ⟨E4, g4, rfl⟩ := Kd.R_slice R4
    have HR := Aside0.mk (And.intro R0 (And.intro R1 (And.intro R2 (And.intro R3 R4))))
    obtain ⟨y0, ey0⟩ : ∃ y, (cutAt t.ks n).length = y := ⟨_, rfl⟩
    obtain ⟨y1, ey1⟩ : ∃ y, (cutAt t.vs n).length = y := ⟨_, rfl⟩
    obtain ⟨y2, ey2⟩ : ∃ y, (cutAt t.ls n).length = y := ⟨_, rfl⟩
    obtain ⟨y3, ey3⟩ : ∃ y, P.length = y := ⟨_, rfl⟩
    obtain ⟨y4, ey4⟩ : ∃ y, Mk.length = y := ⟨_, rfl⟩
    rw [ey0, ey1, ey2, ey3, ey4] at HR
    rw [ey0, ey1, ey2, ey3, ey4]
    clear R0 R1 R2 R3 R4
    have hnP : ∀ k, k ≤ B → ¬ ((S5 ≤ k ∧ k < S6) ∨ (S6 ≤ k ∧ k < S7) ∨ (S7 ≤ k ∧ k < W3.heap.size)) := fun k hk => by have := HS5.out; have := HS6.out; have := HS7.out; omega
    have HU4 := Aside0.mk (And.intro (blk_kept HU.out.1 hk4 (hnP _ (by omega))) (And.intro (blk_kept HU.out.2.1 hk4 (hnP _ (by omega))) (blk_kept HU.out.2.2 hk4 (hnP _ (Nat.le_refl _)))))
    have HB4 := Aside0.mk hb4
    have HV4 := Aside0.mk (HC.out W4 hk4)
    have HY := Aside0.mk (And.intro ey0 (And.intro ey1 (And.intro ey2 (And.intro ey3 ey4))))
    have HZ4 := Aside0.mk (show B < W4.heap.size from Nat.lt_of_lt_of_le HZ.out hk4.1)
    clear hnP hk4 hb4 HU HB3 HZ HR5 HR6 HR7 HSZ7 HSZ6 HSZ5 QR HC ey0 ey1 ey2 ey3 ey4 m0 u0 m1 u1 m2 u2 m3 u3 m4 u4
    have bu := HU4.out.2.2
    have f0 : W4.frozen? ⟨B, 0, none⟩ = false := by simp [World.frozen?, bu]
    have v0 : W4.cell? ⟨B, 0, none⟩ = some (.slice D5 (N - 1) d5) := by rw [blk_cell bu]; rfl
    have f1 : W4.frozen? ⟨B, 1, none⟩ = false := by simp [World.frozen?, bu]
    have v1 : W4.cell? ⟨B, 1, none⟩ = some (.slice D6 (N - 1) d6) := by rw [blk_cell bu]; rfl
    have f2 : W4.frozen? ⟨B, 2, none⟩ = false := by simp [World.frozen?, bu]
    have v2 : W4.cell? ⟨B, 2, none⟩ = some (.slice D7 (N - 1) d7) := by rw [blk_cell bu]; rfl
    have f3 : W4.frozen? ⟨B, 3, none⟩ = false := by simp [World.frozen?, bu]
    have v3 : W4.cell? ⟨B, 3, none⟩ = some (.slice none 0 0) := by rw [blk_cell bu]; rfl
    have f4 : W4.frozen? ⟨B, 4, none⟩ = false := by simp [World.frozen?, bu]
    have v4 : W4.cell? ⟨B, 4, none⟩ = some (.slice none 0 0) := by rw [blk_cell bu]; rfl
    clear bu
    go_wp2_with fail
    have hz5 := V.set5_at HU4.out.2.2 (.slice E0 y0 g0) (.slice E1 y1 g1) (.slice E2 y2 g2) (.slice E3 y3 g3) (.slice E4 y4 g4)
    obtain ⟨W5, e5⟩ : ∃ W5, V.set5 W4 B (.slice E0 y0 g0) (.slice E1 y1 g1) (.slice E2 y2 g2) (.slice E3 y3 g3) (.slice E4 y4 g4) = W5 := ⟨_, rfl⟩
    have hfar : ∀ k, k ≠ B → W5.heap[k]? = W4.heap[k]? := fun k hk => by rw [← e5]; exact V.set5_far _ _ _ _ _ _ _ k hk
    have hsz5 : W5.heap.size = W4.heap.size := by rw [← e5]; simp [V.set5, T.size_setCell]
    have hb5 : Below w.heap.size w W5 := by rw [← e5]; exact V.set5_below HB4.out (by omega) _ _ _ _ _
    rw [e5] at hz5
    have e6 : ((((W4.setCell { block := B, off := 0 } (.slice E0 y0 g0)).setCell { block := B, off := 1 } (.slice E1 y1 g1)).setCell { block := B, off := 2 } (.slice E2 y2 g2)).setCell { block := B, off := 3 } (.slice E3 y3 g3)).setCell { block := B, off := 4 } (.slice E4 y4 g4) = W5 := e5
    rw [e6]
    clear f0 v0 f1 v1 f2 v2 f3 v3 f4 v4
    have bt5 := (hfar w.heap.size (by omega)).trans HU4.out.1
    have br5 := (hfar (w.heap.size + 1) (by omega)).trans HU4.out.2.1
    have HFAR := Aside0.mk (And.intro hfar (And.intro hsz5 hb5))
    have HZ5 := Aside0.mk (And.intro hz5 (And.intro bt5 br5))
    have k0 : W5.cell? ⟨B, 0, none⟩ = some (.slice E0 y0 g0) := by rw [blk_cell hz5]; rfl
    have z0 : W5.cell? ⟨w.heap.size + 1, 0, none⟩ = some (.slice none 0 0) := by rw [blk_cell br5]; rfl
    have g0_ : W5.frozen? ⟨w.heap.size + 1, 0, none⟩ = false := by simp [World.frozen?, br5]
    have k1 : W5.cell? ⟨B, 1, none⟩ = some (.slice E1 y1 g1) := by rw [blk_cell hz5]; rfl
    have z1 : W5.cell? ⟨w.heap.size + 1, 1, none⟩ = some (.slice none 0 0) := by rw [blk_cell br5]; rfl
    have g1_ : W5.frozen? ⟨w.heap.size + 1, 1, none⟩ = false := by simp [World.frozen?, br5]
    have k2 : W5.cell? ⟨B, 2, none⟩ = some (.slice E2 y2 g2) := by rw [blk_cell hz5]; rfl
    have z2 : W5.cell? ⟨w.heap.size + 1, 2, none⟩ = some (.slice none 0 0) := by rw [blk_cell br5]; rfl
    have g2_ : W5.frozen? ⟨w.heap.size + 1, 2, none⟩ = false := by simp [World.frozen?, br5]
    have k3 : W5.cell? ⟨B, 3, none⟩ = some (.slice E3 y3 g3) := by rw [blk_cell hz5]; rfl
    have z3 : W5.cell? ⟨w.heap.size + 1, 3, none⟩ = some (.slice none 0 0) := by rw [blk_cell br5]; rfl
    have g3_ : W5.frozen? ⟨w.heap.size + 1, 3, none⟩ = false := by simp [World.frozen?, br5]
    have k4 : W5.cell? ⟨B, 4, none⟩ = some (.slice E4 y4 g4) := by rw [blk_cell hz5]; rfl
    have z4 : W5.cell? ⟨w.heap.size + 1, 4, none⟩ = some (.slice none 0 0) := by rw [blk_cell br5]; rfl
    have g4_ : W5.frozen? ⟨w.heap.size + 1, 4, none⟩ = false := by simp [World.frozen?, br5]
    have m1 : W5.cell? ⟨w.heap.size, 1, none⟩ = some (.slice A1 N c1) := by rw [blk_cell bt5]; rfl
    obtain ⟨ad, hA1, hadb, hat⟩ := int_at HQ.out.2.1 n hn'2
    have hcell := hat W5 (HFAR.out.2.2.block ad.block hadb)
    have hc6 := set5_cell (b := w.heap.size + 1) (v0 := .slice E0 y0 g0) (v1 := .slice E1 y1 g1) (v2 := .slice E2 y2 g2) (v3 := .slice E3 y3 g3) (v4 := .slice E4 y4 g4) hcell (show (ad.add n).block ≠ w.heap.size + 1 by rw [add_block]; omega)
    clear hat
    subst hA1
    clear hadb
    clear hz5 bt5 br5 hfar hsz5 hb5 e6 e5
    go_region
    go_wp2_with fail
    clear m1 hcell hc6
    have hz6 := V.set5_at HZ5.out.2.2 (.slice E0 y0 g0) (.slice E1 y1 g1) (.slice E2 y2 g2) (.slice E3 y3 g3) (.slice E4 y4 g4)
    obtain ⟨W6, e6⟩ : ∃ W6, V.set5 W5 (w.heap.size + 1) (.slice E0 y0 g0) (.slice E1 y1 g1) (.slice E2 y2 g2) (.slice E3 y3 g3) (.slice E4 y4 g4) = W6 := ⟨_, rfl⟩
    have hfar6 : ∀ k, k ≠ w.heap.size + 1 → W6.heap[k]? = W5.heap[k]? := fun k hk => by rw [← e6]; exact V.set5_far _ _ _ _ _ _ _ k hk
    have hsz6 : W6.heap.size = W5.heap.size := by rw [← e6]; simp [V.set5, T.size_setCell]
    have hb6 : Below w.heap.size w W6 := by rw [← e6]; exact V.set5_below HFAR.out.2.2 (by omega) _ _ _ _ _
    rw [e6] at hz6
    have e7 : ((((W5.setCell { block := w.heap.size + 1, off := 0 } (.slice E0 y0 g0)).setCell { block := w.heap.size + 1, off := 1 } (.slice E1 y1 g1)).setCell { block := w.heap.size + 1, off := 2 } (.slice E2 y2 g2)).setCell { block := w.heap.size + 1, off := 3 } (.slice E3 y3 g3)).setCell { block := w.heap.size + 1, off := 4 } (.slice E4 y4 g4) = W6 := e6
    rw [e7]
    have q0 : W6.drew.cell? ⟨w.heap.size + 1, 0, none⟩ = some (.slice E0 y0 g0) := by show W6.cell? _ = _; rw [blk_cell hz6]; rfl
    have q1 : W6.drew.cell? ⟨w.heap.size + 1, 1, none⟩ = some (.slice E1 y1 g1) := by show W6.cell? _ = _; rw [blk_cell hz6]; rfl
    have q2 : W6.drew.cell? ⟨w.heap.size + 1, 2, none⟩ = some (.slice E2 y2 g2) := by show W6.cell? _ = _; rw [blk_cell hz6]; rfl
    have q3 : W6.drew.cell? ⟨w.heap.size + 1, 3, none⟩ = some (.slice E3 y3 g3) := by show W6.cell? _ = _; rw [blk_cell hz6]; rfl
    have q4 : W6.drew.cell? ⟨w.heap.size + 1, 4, none⟩ = some (.slice E4 y4 g4) := by show W6.cell? _ = _; rw [blk_cell hz6]; rfl
    refine bodyPost_ret (v := .tuple #[.agg #[.slice E0 y0 g0, .slice E1 y1 g1, .slice E2 y2 g2, .slice E3 y3 g3, .slice E4 y4 g4], .int .i64 (rd t.vs n), .bool true, .int .i64 nx']) (by simp [results, Try.results40, go_sem, q0, q1, q2, q3, q4]) rfl ?_
    have hbd : Below W6.heap.size W6 W6.drew := below_drew (Below.refl _ _)
    have hgo : ∀ w2 : World, (∀ k, k < W6.drew.heap.size → ¬ (Mo k ∧ k < w.heap.size) → w2.heap[k]? = W6.drew.heap[k]?) → ∀ k, w.heap.size ≤ k → k < W4.heap.size → (∀ cells, W4.heap[k]? ≠ some (.cells cells 28 (0, 0))) → w2.heap[k]? = W4.heap[k]? := fun w2 h2 k h3 h4 h5 => by
      have hkB : k ≠ B := fun e => h5 _ (by rw [e]; exact HU4.out.2.2)
      have hkR : k ≠ w.heap.size + 1 := fun e => h5 _ (by rw [e]; exact HU4.out.2.1)
      have e1 : W6.drew.heap[k]? = W6.heap[k]? := rfl
      rw [h2 k (by show k < W6.heap.size; rw [hsz6, HFAR.out.2.1]; exact h4) (fun h => by omega), e1, hfar6 k hkR, HFAR.out.1 k hkB]
    refine ⟨⟨cutAt t.ks n, cutAt t.vs n, cutAt t.ls n, P, Mk⟩, rd t.vs n, true, nx', _, _, _, _, _, rfl, fun w2 hs h2 => ?_, HD.out.1, .inr ⟨n, P, Mk, rfl, hn', (HF.out.2.1 (by first | trivial | rfl)).2, rfl, rfl, HD.out.2⟩, T.belowAt hb6 hbd⟩
    obtain ⟨R0, R1, R2, R3, R4⟩ := HR.out
    rw [← HY.out.1] at R0
    rw [← HY.out.2.1] at R1
    rw [← HY.out.2.2.1] at R2
    rw [← HY.out.2.2.2.1] at R3
    rw [← HY.out.2.2.2.2] at R4
    rw [← HY.out.1, ← HY.out.2.1, ← HY.out.2.2.1, ← HY.out.2.2.2.1, ← HY.out.2.2.2.2]
    exact ⟨R_far28 R0 (by decide) (hgo w2 h2), R_far28 R1 (by decide) (hgo w2 h2), R_far28 R2 (by decide) (hgo w2 h2), R_far28 R3 (by decide) (hgo w2 h2), R_far28 R4 (by decide) (hgo w2 h2)⟩
  · have hz6 := V.set5_at HBB.out.2 (.slice A0 N c0) (.slice A1 N c1) (.slice A2 N c2) (.slice A3 M3 c3) (.slice A4 M4 c4)
    obtain ⟨W6, e6⟩ : ∃ W6, V.set5 w2 (w.heap.size + 1) (.slice A0 N c0) (.slice A1 N c1) (.slice A2 N c2) (.slice A3 M3 c3) (.slice A4 M4 c4) = W6 := ⟨_, rfl⟩
    have hfar6 : ∀ k, k ≠ w.heap.size + 1 → W6.heap[k]? = w2.heap[k]? := fun k hk => by rw [← e6]; exact V.set5_far _ _ _ _ _ _ _ k hk
    have hsz6 : W6.heap.size = w2.heap.size := by rw [← e6]; simp [V.set5, T.size_setCell]
    have hb6 : Below w.heap.size w W6 := by rw [← e6]; exact V.set5_below HB.out (by omega) _ _ _ _ _
    rw [e6] at hz6
    have e7 : ((((w2.setCell { block := w.heap.size + 1, off := 0 } (.slice A0 N c0)).setCell { block := w.heap.size + 1, off := 1 } (.slice A1 N c1)).setCell { block := w.heap.size + 1, off := 2 } (.slice A2 N c2)).setCell { block := w.heap.size + 1, off := 3 } (.slice A3 M3 c3)).setCell { block := w.heap.size + 1, off := 4 } (.slice A4 M4 c4) = W6 := e6
    rw [e7]
    clear m0 m1 m2 m3 m4 z0 z1 z2 z3 z4 g0 g1 g2 g3 g4
    have q0 : W6.cell? ⟨w.heap.size + 1, 0, none⟩ = some (.slice A0 N c0) := by rw [blk_cell hz6]; rfl
    have q1 : W6.cell? ⟨w.heap.size + 1, 1, none⟩ = some (.slice A1 N c1) := by rw [blk_cell hz6]; rfl
    have q2 : W6.cell? ⟨w.heap.size + 1, 2, none⟩ = some (.slice A2 N c2) := by rw [blk_cell hz6]; rfl
    have q3 : W6.cell? ⟨w.heap.size + 1, 3, none⟩ = some (.slice A3 M3 c3) := by rw [blk_cell hz6]; rfl
    have q4 : W6.cell? ⟨w.heap.size + 1, 4, none⟩ = some (.slice A4 M4 c4) := by rw [blk_cell hz6]; rfl
    refine bodyPost_ret (v := .tuple #[.agg #[.slice A0 N c0, .slice A1 N c1, .slice A2 N c2, .slice A3 M3 c3, .slice A4 M4 c4], .int .i64 0, .bool false, .int .i64 nx]) (by simp [results, Try.results40, go_sem, q0, q1, q2, q3, q4]) rfl ?_
    have hna : a ∉ t.ks := fun h => by have := HF.out.2.2.2.1.2 h; simp at this
    refine ⟨t, 0, false, nx, _, _, _, _, _, rfl, fun w2' hs h2 => ?_, HF.out.2.2.2.2, .inl ⟨rfl, hna, rfl, rfl, rfl⟩, hb6⟩
    have h0 := HM.out w2' (Nat.le_trans hb6.size hs) (fun k h1 h3 => (h2 k (Nat.lt_of_lt_of_le h1 hb6.size) (fun h4 => h3 h4.1)).trans (hb6.block k h1))
    rw [HE.out.1, HE.out.2.1, HE.out.2.2.1, HE.out.2.2.2.1, HE.out.2.2.2.2] at h0
    exact h0
end Go.Proofs.Ytjhgknagmiekeaa.N
set_option linter.unusedVariables false
set_option linter.unusedSimpArgs false
namespace Go.Proofs.Ytjhgknagmiekeaa.N
open Go.RowKit Go.Proofs.Ytjhgknagmiekeaa.K Go.Proofs.YtjhgknagmiekeaaW.PrintWords Go.Proofs.YtjhgknagmiekeaaW.PrintLast
open Go.Proofs.Ytjhgknagmiekeaa.V (kpF kpU)
def PlAt (w : World) (v : Value) (idx : List Nat) : Prop := SlI w v (ints idx)
theorem PlAt.below {w w' : World} {v : Value} {idx : List Nat} (h : PlAt w v idx) (hb : Below w.heap.size w w') : PlAt w' v idx := SlI.below h hb
def GoAt (w : World) (v : Value) (l : List S35) : Prop := ∃ A c, v = .slice A l.length c ∧ l.length ≤ c ∧ Kd.C k35 w A l.length l
theorem GoAt.below {w w' : World} {v : Value} {l : List S35} (h : GoAt w v l) (hb : Below w.heap.size w w') : GoAt w' v l := by
  obtain ⟨A, c, h1, h2, h3⟩ := h
  exact ⟨A, c, h1, h2, Kd.C_below h3 hb⟩
end Go.Proofs.Ytjhgknagmiekeaa.N
set_option linter.unusedVariables false
set_option linter.unusedSimpArgs false
namespace Go.Proofs.Ytjhgknagmiekeaa.N
open Go.RowKit Go.Lib Go.Proofs
open Go.Proofs.Ytjhgknagmiekeaa.K Go.Proofs.YtjhgknagmiekeaaW.PrintWords Go.Proofs.YtjhgknagmiekeaaW.PrintLast
open Go.Proofs.Ytjhgknagmiekeaa.T (Nd Lf Ent All valT findT IntVals Fine Tr)
open Go.Proofs.Ytjhgknagmiekeaa.V (kpU pre)
def AgreeF (f : List UInt8 → Option Value) (t : Rt) : Prop := ∀ q x, (q, x) ∈ (t.ks.zip t.vs).map ex ↔ f q = some (.int .i64 x)
theorem agreeF_of {root : Nd} {t : Rt} (hg : T.Good root) (hv : IntVals root) (h : Agree root t) : AgreeF (valT root) t := fun q x => by
  rw [← mem_ey hg hv, show (All root).map ey = _ from h]
theorem agree_of {root : Nd} {t : Rt} (hg : T.Good root) (hv : IntVals root) (ht : Rok t) (h : AgreeF (valT root) t) : Agree root t := by
  unfold Agree
  have h1 : ((All root).map ey).Pairwise (fun a b => a.1 < b.1) := by
    rw [List.pairwise_map]
    exact T.all_rise hg
  have h2 := rise_zip ht.rise ht.v.symm
  refine T.sorted_ext (lt := fun a b : Kv => a.1 < b.1) (fun x => T.blt_irrefl _) (fun x y z => T.blt_trans) _ _ h1 h2 (fun x => ?_)
  obtain ⟨q, x⟩ := x
  rw [mem_ey hg hv, h q x]
theorem AgreeF.imp {f g : List UInt8 → Option Value} {t : Rt} (h : AgreeF f t) (e : ∀ q, g q = f q) : AgreeF g t := fun q x => by rw [h q x, e q]
theorem agreeF_none {f : List UInt8 → Option Value} {t : Rt} (h : AgreeF f t) (ht : Rok t) {a : ByteArray} (ha : a ∉ t.ks) (x : Int) : f (T.L a) ≠ some (.int .i64 x) := fun e => by
  have := (h (T.L a) x).2 e
  obtain ⟨y, hy, e2⟩ := List.mem_map.1 this
  unfold ex at e2
  have e3 := T.L_inj (Prod.mk.inj e2).1
  rw [← e3] at ha
  exact ha (List.of_mem_zip hy).1
theorem agreeF_del {f : List UInt8 → Option Value} {t t' : Rt} (ht : Rok t) (h : AgreeF f t) {a : ByteArray} {nx nx' old : Int} {b : Bool} (hd : DelRt t t' a nx nx' old b) (hf : ∀ q v, f q = some v → ∃ x, v = .int .i64 x) : AgreeF (fun q => if q = T.L a then none else f q) t' := by
  rcases hd with ⟨-, ha, rfl, -, -⟩ | ⟨n, P, M, -, hn, hga, -, rfl, -⟩
  · refine h.imp (fun q => ?_)
    split
    · rename_i e
      rw [e]
      cases he : f (T.L a) with
      | none => rfl
      | some v =>
        exfalso
        obtain ⟨x, rfl⟩ := hf _ _ he
        exact agreeF_none h ht ha x he
    · rfl
  · intro q x
    have hzn : (t.ks.zip t.vs)[n]? = some (a, t.vs[n]'(by rw [ht.v]; exact hn)) := by
      rw [List.getElem?_eq_getElem (by rw [List.length_zip, ht.v]; omega), List.getElem_zip, ← hga, gd_get hn]
    have hr : (t.ks.zip t.vs).Pairwise (fun a b => T.L a.1 < T.L b.1) := by
      have h2 := rise_zip ht.rise ht.v.symm
      rw [List.pairwise_map] at h2
      exact h2
    show (q, x) ∈ ((cutAt t.ks n).zip (cutAt t.vs n)).map ex ↔ _
    rw [zip_cutAt _ _ _ ht.v.symm]
    have hz : (q, x) ∈ (cutAt (t.ks.zip t.vs) n).map ex ↔ q ≠ T.L a ∧ (q, x) ∈ (t.ks.zip t.vs).map ex := by
      rw [List.mem_map]
      constructor
      · rintro ⟨y, hy, e⟩
        obtain ⟨h3, h4⟩ := (mem_cut hr hzn y).1 hy
        refine ⟨fun h5 => h4 ?_, ?_⟩
        · unfold ex at e
          exact T.L_inj ((Prod.mk.inj e).1.trans h5)
        · rw [← e]
          exact List.mem_map_of_mem h3
      · rintro ⟨h3, h4⟩
        obtain ⟨y, hy, e⟩ := List.mem_map.1 h4
        refine ⟨y, (mem_cut hr hzn y).2 ⟨hy, fun h5 => h3 ?_⟩, e⟩
        unfold ex at e
        rw [← (Prod.mk.inj e).1, h5]
    rw [hz, h q x]
    dsimp only
    by_cases hq : q = T.L a
    · rw [if_pos hq]
      constructor
      · rintro ⟨h3, -⟩; exact absurd hq h3
      · intro e; cases e
    · rw [if_neg hq]
      exact ⟨fun e => e.2, fun e => ⟨hq, e⟩⟩
end Go.Proofs.Ytjhgknagmiekeaa.N
set_option linter.unusedVariables false
set_option linter.unusedSimpArgs false
namespace Go.Proofs.Ytjhgknagmiekeaa.N
open Go.RowKit Go.Lib Go.Proofs
open Go.Proofs.Ytjhgknagmiekeaa.K Go.Proofs.YtjhgknagmiekeaaW.PrintWords Go.Proofs.YtjhgknagmiekeaaW.PrintLast
open Go.Proofs.Ytjhgknagmiekeaa.T (Nd Lf Ent All valT findT IntVals Fine Tr)
open Go.Proofs.Ytjhgknagmiekeaa.V (kpU pre)
theorem C_heap {α : Type} {enc : α → Value} {h1 : ∀ x, (enc x).oneCell' = true} {w w2 : World} {A : Option Addr} {n : Nat} {xs : List α} (h : (Kd.scalar enc h1).C w A n xs) (hs : w.heap.size ≤ w2.heap.size) (hk : ∀ k, k < w.heap.size → w2.heap[k]? = w.heap[k]?) : (Kd.scalar enc h1).C w2 A n xs :=
  Kd.C_below (w1 := { w with heap := w2.heap }) h ⟨rfl, rfl, rfl, hs, hk⟩
theorem SlS.heap {w w2 : World} {v : Value} {xs : List ByteArray} (h : SlS w v xs) (hs : w.heap.size ≤ w2.heap.size) (hk : ∀ k, k < w.heap.size → w2.heap[k]? = w.heap[k]?) : SlS w2 v xs := by
  obtain ⟨A, c, h1, h2, h3⟩ := h
  exact ⟨A, c, h1, h2, C_heap h3 hs hk⟩
theorem SlI.heap {w w2 : World} {v : Value} {xs : List Int} (h : SlI w v xs) (hs : w.heap.size ≤ w2.heap.size) (hk : ∀ k, k < w.heap.size → w2.heap[k]? = w.heap[k]?) : SlI w2 v xs := by
  obtain ⟨A, c, h1, h2, h3⟩ := h
  exact ⟨A, c, h1, h2, C_heap h3 hs hk⟩
theorem RtAt.off {w : World} {t : Rt} {v0 v1 v2 v3 v4 : Value} (h : RtAt w t v0 v1 v2 v3 v4) : RtOff (fun _ => False) w t v0 v1 v2 v3 v4 := fun w2 hs hk =>
  ⟨h.a0.heap hs (fun k h1 => hk k h1 id), h.a1.heap hs (fun k h1 => hk k h1 id), h.a2.heap hs (fun k h1 => hk k h1 id), h.a3.heap hs (fun k h1 => hk k h1 id), h.a4.heap hs (fun k h1 => hk k h1 id)⟩
theorem str_at {w : World} {A : Option Addr} {N : Nat} {xs : List ByteArray} (h : Kd.C Kd.string w A N xs) (n : Nat) (hn : n < xs.length) : ∃ ad, A = some ad ∧ ad.block < w.heap.size ∧ ∀ W : World, W.heap[ad.block]? = w.heap[ad.block]? → W.cell? (ad.add n) = some (.string (gd xs n)) := by
  have hl := Kd.C_len h
  obtain ⟨ad, cc, h1, h2, h3, h4⟩ := Kd.C_get h ⟨#[]⟩ (n : Int) (by omega) (by omega)
  have h5 : cc = [.string (gd xs n)] := h3
  have h6 := h4 0 (.string (gd xs n)) (by rw [h5]; rfl)
  have e : (n : Int).toNat * Kd.string.sz + 0 = n := by rw [show Kd.string.sz = 1 from rfl]; omega
  rw [e] at h6
  exact ⟨ad, h1, by have := World.block_lt_of_cell? w _ h6; rwa [add_block] at this, fun W hW => (World.cell?_of_block (a := ad.add n) (by rw [add_block]; exact hW)).trans h6⟩
theorem RtOff.set {M' M : Nat → Prop} {W4 W5 : World} {t : Rt} {u0 u1 u2 u3 u4 : Value} {b : Nat} (h : RtOff M' W4 t u0 u1 u2 u3 u4) (hM : ∀ k, M k → M' k) (hb : M b) (hs : W5.heap.size = W4.heap.size) (hk : ∀ k, k ≠ b → W5.heap[k]? = W4.heap[k]?) : RtOff M W5 t u0 u1 u2 u3 u4 := fun w2 h1 h2 =>
  h w2 (by omega) (fun k h3 h4 => (h2 k (by omega) (fun h5 => h4 (hM k h5))).trans (hk k (fun e => h4 (by rw [e]; exact hM b hb))))
attribute [local go_sem] Oper.semAt_some
end Go.Proofs.Ytjhgknagmiekeaa.N
