/- joined: N7 -/
import Derived.Test.YtjhgknagmiekeaaJT12
import Derived.Test.YtjhgknagmiekeaaJT14
import Derived.Test.YtjhgknagmiekeaaJT15
set_option linter.unusedVariables false
set_option linter.unusedSimpArgs false
namespace Go.Proofs.Ytjhgknagmiekeaa.N
open Go.RowKit Go.Proofs.Ytjhgknagmiekeaa.K Go.Proofs.YtjhgknagmiekeaaW.PrintWords Go.Proofs.YtjhgknagmiekeaaW.PrintLast
open Go.Proofs.Ytjhgknagmiekeaa.V (valI ovr ovrs ownE ovr_eq pre skU kpU skF kpF skL)
abbrev ints (l : List Nat) : List Int := l.map (fun (i : Nat) => (i : Int))
def upto (xs : List ByteArray) (p : ByteArray → Bool) (n : Nat) : List Nat := (List.range n).filter (fun i => p (gd xs i))
theorem upto_succ (xs : List ByteArray) (p : ByteArray → Bool) (n : Nat) : upto xs p (n + 1) = if p (gd xs n) = true then upto xs p n ++ [n] else upto xs p n := by
  unfold upto
  rw [List.range_succ, List.filter_append]
  by_cases h : p (gd xs n) = true
  · rw [if_pos h, show [n].filter (fun i => p (gd xs i)) = [n] from List.filter_cons_of_pos (p := fun i => p (gd xs i)) h]
  · rw [if_neg h, show [n].filter (fun i => p (gd xs i)) = [] from List.filter_cons_of_neg (p := fun i => p (gd xs i)) h, List.append_nil]
theorem upto_le (xs : List ByteArray) (p : ByteArray → Bool) (n : Nat) : (upto xs p n).length ≤ n := by
  unfold upto
  have := List.length_filter_le (fun i => p (gd xs i)) (List.range n)
  rw [List.length_range] at this
  exact this
theorem plc_mem {xs : List ByteArray} {p : ByteArray → Bool} {i : Nat} (h : i ∈ plc xs p) : i < xs.length := by
  unfold plc at h
  rw [List.mem_filter, List.mem_range] at h
  exact h.1
theorem from_ev (t : Rt) (h : Rok t) (hl : t.ks.length < 100000000000) (lo : ByteArray) : Ev (fun k => musterref04_From.f k t.ks t.vs t.ls t.ps t.ms lo) (ints (plc t.ks (fun k => kpF (T.L lo) (T.L k)))) := by
  have key : ∀ d i : Nat, t.ks.length - i = d → i ≤ t.ks.length → Ev (fun k => musterref04_From.l0 k lo (ints (upto t.ks (fun k => kpF (T.L lo) (T.L k)) i)) t.ks (t.ks.length : Int) (i : Int)) (ints (plc t.ks (fun k => kpF (T.L lo) (T.L k)))) := by
    intro d
    induction d with
    | zero =>
      intro i hd hi
      have e : i = t.ks.length := by omega
      subst e
      refine Ev.step (f := fun k => some (ints (plc t.ks (fun k => kpF (T.L lo) (T.L k))))) (fun k => ?_) (Ev.now _)
      simp only [musterref04_From.l0]
      rw [if_neg (by omega)]
      rfl
    | succ d ih =>
      intro i hd hi
      have hlt : i < t.ks.length := by omega
      have hle := less_ev (gd t.ks i) lo (h.sk _ (gd_mem hlt))
      rw [less_dec] at hle
      have hi2 := ih (i + 1) (by omega) (by omega)
      have hul := upto_le t.ks (fun k => kpF (T.L lo) (T.L k)) i
      refine Ev.step (f := fun k => (musterref01_Less.f k (gd t.ks i) lo).bind fun b => if b = true then musterref04_From.l0 k lo (ints (upto t.ks (fun k => kpF (T.L lo) (T.L k)) i)) t.ks (t.ks.length : Int) ((i + 1 : Nat) : Int) else musterref04_From.l0 k lo (ints (upto t.ks (fun k => kpF (T.L lo) (T.L k)) i) ++ [(i : Int)]) t.ks (t.ks.length : Int) ((i + 1 : Nat) : Int)) (fun k => ?_) (Ev.bind hle ?_)
      · simp only [musterref04_From.l0]
        rw [if_pos (by omega), if_pos (by omega), if_pos (by omega), rdOf_gd, wadd i (by omega), if_pos (by rw [List.length_map]; omega)]
      · rw [upto_succ] at hi2
        by_cases hb : T.L (gd t.ks i) < T.L lo
        · have e : kpF (T.L lo) (T.L (gd t.ks i)) = false := by unfold kpF; rw [decide_eq_true hb]; rfl
          rw [if_neg (by rw [e]; simp)] at hi2
          simp only [decide_eq_true hb, if_true]
          exact hi2
        · have e : kpF (T.L lo) (T.L (gd t.ks i)) = true := by unfold kpF; rw [decide_eq_false hb]; rfl
          rw [if_pos e] at hi2
          simp only [decide_eq_false hb]
          simpa using hi2
  exact key t.ks.length 0 (by omega) (by omega)
theorem starts_pre (a b : ByteArray) : musterref01_Starts.f a b = some (pre (T.L a) (T.L b)) := V.pre_f a b
theorem under_ev (t : Rt) (h : Rok t) (hl : t.ks.length < 100000000000) (p : ByteArray) : Ev (fun k => musterref04_Under.f k t.ks t.vs t.ls t.ps t.ms p) (ints (plc t.ks (fun k => kpU (T.L p) (T.L k)))) := by
  have key : ∀ d i : Nat, t.ks.length - i = d → i ≤ t.ks.length → Ev (fun k => musterref04_Under.l0 k p (ints (upto t.ks (fun k => kpU (T.L p) (T.L k)) i)) t.ks (t.ks.length : Int) (i : Int)) (ints (plc t.ks (fun k => kpU (T.L p) (T.L k)))) := by
    intro d
    induction d with
    | zero =>
      intro i hd hi
      have e : i = t.ks.length := by omega
      subst e
      refine Ev.step (f := fun k => some (ints (plc t.ks (fun k => kpU (T.L p) (T.L k))))) (fun k => ?_) (Ev.now _)
      simp only [musterref04_Under.l0]
      rw [if_neg (by omega)]
      rfl
    | succ d ih =>
      intro i hd hi
      have hlt : i < t.ks.length := by omega
      have hi2 := ih (i + 1) (by omega) (by omega)
      have hul := upto_le t.ks (fun k => kpU (T.L p) (T.L k)) i
      refine Ev.step (fun k => ?_) hi2
      simp only [musterref04_Under.l0]
      rw [if_pos (by omega), if_pos (by omega), if_pos (by omega), rdOf_gd, wadd i (by omega), starts_pre, Option.bind_some, upto_succ]
      by_cases hb : pre (T.L (gd t.ks i)) (T.L p) = true
      · have e : kpU (T.L p) (T.L (gd t.ks i)) = true := hb
        rw [if_pos hb, if_pos e, if_pos (by rw [List.length_map]; omega), ints, ints, List.map_append]
        rfl
      · have e : ¬ kpU (T.L p) (T.L (gd t.ks i)) = true := hb
        rw [if_neg hb, if_neg e]
  exact key t.ks.length 0 (by omega) (by omega)
def atPl (t : Rt) (idx : List Nat) : List S35 := idx.map (fun i => ⟨gd t.ks i, t.vs.getD i 0⟩)
theorem these_ev (t : Rt) (h : Rok t) (idx : List Nat) (hi : ∀ i ∈ idx, i < t.ks.length) (hl : idx.length < 100000000000) : Ev (fun k => musterlaw04_these.f k (atPl t idx) t.ks t.vs t.ls t.ps t.ms (ints idx)) true := by
  have e1 : (atPl t idx).length = idx.length := by unfold atPl; rw [List.length_map]
  have e2 : (ints idx).length = idx.length := by rw [List.length_map]
  have key : ∀ d j : Nat, idx.length - j = d → j ≤ idx.length → Ev (fun k => musterlaw04_these.l0 k (ints idx) (atPl t idx) (((atPl t idx).length : Nat) : Int) (j : Int) t.ks t.vs t.ls t.ps t.ms) true := by
    intro d
    induction d with
    | zero =>
      intro j hd hj
      refine Ev.step (f := fun k => some true) (fun k => ?_) (Ev.now _)
      simp only [musterlaw04_these.l0]
      rw [if_neg (by omega)]
    | succ d ih =>
      intro j hd hj
      have hlt : j < idx.length := by omega
      obtain ⟨m, hm⟩ : ∃ m, idx[j] = m := ⟨_, rfl⟩
      have hml : m < t.ks.length := hi m (by rw [← hm]; exact List.getElem_mem _)
      have r1 : rd (ints idx) (j : Int) = (m : Int) := by
        simp [rd, ints, List.getD_eq_getElem?_getD, hlt, hm]
      have r2 : rd_T35 (atPl t idx) (j : Int) = ⟨gd t.ks m, t.vs.getD m 0⟩ := by
        simp [rd_T35, atPl, List.getD_eq_getElem?_getD, hlt, hm]
      refine Ev.step (fun k => ?_) (ih (j + 1) (by omega) (by omega))
      simp only [musterlaw04_these.l0]
      have hv := h.v
      rw [r1, r2, if_pos (by omega), if_pos (by omega), if_pos (by omega), if_pos (by omega), if_pos (by omega), if_pos (by omega), rdOf_gd, if_pos rfl, if_pos (by omega), if_pos (by simp [rd]), wadd j (by omega)]
  refine Ev.congr (fun k => ?_) (key idx.length 0 (by omega) (by omega))
  unfold musterlaw04_these.f
  rw [if_pos (by rw [e1, e2])]
  rfl
theorem got_eq (t : Rt) (h : Rok t) (p : ByteArray → Bool) : ((t.ks.zip t.vs).filter (fun x => p x.1)).map (fun x => (⟨x.1, x.2⟩ : S35)) = atPl t (plc t.ks p) := by
  rw [zip_filter t.ks t.vs h.v p, List.map_map]
  rfl
end Go.Proofs.Ytjhgknagmiekeaa.N
