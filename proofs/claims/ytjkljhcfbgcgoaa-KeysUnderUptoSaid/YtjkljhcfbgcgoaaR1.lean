/- keys, rows: an argument of type []api.Part, opened: its list, that its numbers fit, what the bound on the bulk gives. -/
import Derived.Test.YtjkljhcfbgcgoaaM0
import Derived.Test.YtjkljhcfbgcgoaaQ2
import Derived.Test.YtjkljhcfbgcgoaaRows
import Derived.Deep.Slices
import Derived.Deep.Fields
import Derived.ChangeSame
import Derived.SizedLaws
import Derived.ProofKit
set_option linter.unusedVariables false
set_option linter.unusedSimpArgs false
namespace Go.Proofs.Ytjkljhcfbgcgoaa.R
open Go.ChangeShapes Go.WideShapes Go.Deep Go.RowKit
open Go.Proofs.YtjkljhcfbgcgoaaW.PrintWords Go.Proofs.Ytjkljhcfbgcgoaa.K

section
variable {H : Type} {enc : TypeId × Value → H} {P : Program} {w : World} {base : Nat} {spare : Nat → Bool} {held : Bool}
theorem open_slice_fields {t e : TypeId} {fs : Array Field} {fuel : Nat} {cs : List Value} {x : DataW H × List MemPlace} (ht : P.underlying t = some (.slice e)) (he : P.underlying e = some (.struct fs))
    (hone : oneCellFields P fs = true) (hC : P.cellsOf e = fs.size) (h : DataW.trod enc P w base spare held fuel t cs = some x) :
    (cs = [.slice none 0 0] ∧ x = (.nil, [])) ∨
    ∃ (a : Addr) (len cap m : Nat) (D : Nat → DataW H) (Pl : Nat → List MemPlace), cs = [.slice (some a) len cap] ∧ base ≤ a.block ∧ len ≤ cap ∧ cap ≤ maxLen ∧ m = (if spare a.block then cap else len) ∧
      x = (.slice ((List.range len).map D) ((List.range (m - len)).map fun j => D (len + j)), MemPlace.row a (m * fs.size) ++ (List.range m).flatMap Pl) ∧
      ∀ i, i < m → ∃ (ys : List (DataW H × List MemPlace)) (n : Nat), D i = .agg (ys.map (·.1)) ∧ Pl i = ys.flatMap (·.2) ∧ ys.length = fs.size ∧
        ∀ (j : Nat) (f : Field), fs[j]? = some f → ∃ (v : Value) (y : DataW H × List MemPlace), w.cell? (a.add (i * fs.size + j)) = some v ∧ ys[j]? = some y ∧ DataW.trod enc P w base spare held n f.type [v] = some y := by
  rcases open_slice ht h with h0 | ⟨a, len, cap, m, n, D, Pl, hcs, hb, hl, hm, hmm, hx, hi⟩
  · exact .inl h0
  · refine .inr ⟨a, len, cap, m, D, Pl, hcs, hb, hl, hm, hmm, by rw [hC] at hx; exact hx, fun i him => ?_⟩
    obtain ⟨cs', hc, ht'⟩ := hi i him
    rw [hC] at hc
    obtain ⟨ys, n', hn', hy, hlen, hyl, hf⟩ := DataW.trod_struct he ht'
    obtain ⟨_, hcl, hat⟩ := World.cells?_some hc
    simp only [Prod.mk.injEq] at hy
    refine ⟨ys, n', hy.1, hy.2, hyl, fun j f hj => ?_⟩
    obtain ⟨ho, hk⟩ := hone_of hone j f hj
    have hjl : j < fs.size := (Array.getElem?_eq_some_iff.1 hj).1
    have hcell := hat j hjl
    have hv : cs'[j]? = some (cs'[j]'(by omega)) := List.getElem?_eq_getElem (by omega)
    have h1 := hf j f hj
    rw [ho, hk] at h1
    have hone' : (cs'.drop j).take 1 = [cs'[j]'(by omega)] := by
      rw [List.drop_eq_getElem_cons (by omega)]
      rfl
    rw [hone'] at h1
    have hys : ys[j]? = some (ys[j]'(by omega)) := List.getElem?_eq_getElem (by omega)
    refine ⟨_, _, ?_, hys, h1.trans hys⟩
    rw [← Go.Deep.add_add, hcell, hv]
end

/-- how a part reads -/
def dP {H : Type} (p : S36) : DataW H := .agg [.lit (.int .i64 p.f0), .lit (.string p.f1.data.toList), .lit (.int .u64 p.f2)]
def wfPart (p : S36) : Prop := (Lit.int .i64 p.f0).wf = true ∧ (Lit.int .u64 p.f2).wf = true
theorem wfPart.wfP {p : S36} (h : wfPart p) : Q.wfP p := by
  have h2 := h.2
  simp [Lit.wf, IntKind.min, IntKind.max, IntKind.signed, IntKind.bits] at h2
  exact ⟨h2.1, by omega⟩

theorem open_parts {H : Type} {enc : TypeId × Value → H} {W : World} {base : Nat} {spare : Nat → Bool} {held : Bool} {a : Option Addr} {len cap : Nat} {d : DataW H} {ps : List MemPlace}
    (h : DataW.Trod enc Try.prog W base spare held 26 (.slice a len cap) d ps) :
    ∃ l : List S36, len = l.length ∧ l.length ≤ cap ∧ Kd.C k36 W a l.length l ∧ (∀ p ∈ l, wfPart p) ∧ ((d = .nil ∧ l = []) ∨ ∃ sp, d = .slice (l.map dP) sp) := by
  obtain ⟨fuel, hf⟩ := h
  rcases open_slice_fields (fs := #[_, _, _]) Try.underlying26 Try.underlying36 (by kernel_rfl) (by kernel_rfl) hf with ⟨hcs, hx⟩ | ⟨ad, len', cap', m, D, Pl, hcs, _, hl, hm, hmm, hx, hi⟩
  · simp [Value.cells] at hcs
    obtain ⟨rfl, rfl, rfl⟩ := hcs
    obtain ⟨rfl, _⟩ := Prod.mk.inj hx
    exact ⟨[], rfl, by simp, Kd.C_nil k36 W, by simp, .inl ⟨rfl, rfl⟩⟩
  · simp [Value.cells] at hcs
    obtain ⟨rfl, rfl, rfl⟩ := hcs
    obtain ⟨hx, _⟩ := Prod.mk.inj hx
    subst hx
    have hlm : len ≤ m := by rw [hmm]; split; exact hl; exact Nat.le_refl _
    have each : ∀ i : Nat, ∃ p : S36, i < len → wfPart p ∧ D i = dP p ∧ W.cell? (ad.add (i * 3)) = some (.int .i64 p.f0) ∧ W.cell? (ad.add (i * 3 + 1)) = some (.string p.f1) ∧ W.cell? (ad.add (i * 3 + 2)) = some (.int .u64 p.f2) := by
      intro i
      by_cases hil : i < len
      · obtain ⟨ys, n, hD, _, hyl, hj⟩ := hi i (by omega)
        obtain ⟨v0, y0, c0, e0, t0⟩ := hj 0 _ rfl
        obtain ⟨v1, y1, c1, e1, t1⟩ := hj 1 _ rfl
        obtain ⟨v2, y2, c2, e2, t2⟩ := hj 2 _ rfl
        obtain ⟨n0, q0, r0, w0⟩ := DataW.trod_int Try.underlying3 t0
        obtain ⟨s1, q1, r1, w1⟩ := DataW.trod_string Try.underlying9 t1
        obtain ⟨n2, q2, r2, w2⟩ := DataW.trod_int Try.underlying34 t2
        simp only [List.cons.injEq, and_true] at q0 q1 q2
        subst q0 q1 q2 r0 r1 r2
        refine ⟨⟨n0, s1, n2⟩, fun _ => ⟨⟨w0, w2⟩, ?_, c0, c1, c2⟩⟩
        have hys : ys = [(.lit (.int .i64 n0), []), (.lit (.string s1.data.toList), []), (.lit (.int .u64 n2), [])] := by
          match ys, hyl, e0, e1, e2 with
          | [a, b, c], _, e0, e1, e2 => simp at e0 e1 e2; rw [e0, e1, e2]
        rw [hD, hys]
        rfl
      · exact ⟨⟨0, ⟨#[]⟩, 0⟩, fun h => absurd h hil⟩
    obtain ⟨g, hg⟩ := Classical.axiomOfChoice each
    refine ⟨(List.range len).map g, by simp, by simpa using hl, ?_, ?_, .inr ⟨(List.range (m - len)).map fun j => D (len + j), ?_⟩⟩
    · have hlen : ((List.range len).map g).length = len := by simp
      rw [hlen]
      refine ⟨hlen, by unfold maxLen at hm; omega, fun _ => ⟨ad, rfl, fun j p hp => ?_⟩⟩
      have hj : j < len := by have := (List.getElem?_eq_some_iff.1 hp).1; rw [hlen] at this; exact this
      have hpe : p = g j := by
        rw [List.getElem?_map, List.getElem?_range hj] at hp
        simpa using hp.symm
      subst hpe
      obtain ⟨_, _, c0, c1, c2⟩ := hg j hj
      refine ⟨_, rfl, k36_mk W (g j), fun i u hu => ?_⟩
      match i, hu with
      | 0, hu => simp at hu; subst hu; exact c0
      | 1, hu => simp at hu; subst hu; exact c1
      | 2, hu => simp at hu; subst hu; exact c2
    · intro p hp
      obtain ⟨j, hj, rfl⟩ := List.mem_map.1 hp
      exact (hg j (List.mem_range.1 hj)).1
    · congr 1
      rw [List.map_map]
      apply List.map_congr_left
      intro j hj
      exact (hg j (List.mem_range.1 hj)).2.1

/-! ### the bulk -/
def wt : List S36 → Nat
  | [] => 0
  | p :: ps => p.f1.size + 4 + wt ps
theorem wt_bulk {H : Type} (l : List S36) : Rows.uptoBulkAll (l.map (dP (H := H))) = wt l := by
  induction l with
  | nil => rfl
  | cons p ps ih =>
    simp only [List.map_cons, Rows.uptoBulkAll, ih, wt, dP, Rows.uptoBulk, Q.size_list]
    omega
theorem wt_of {H : Type} {d : DataW H} {l : List S36} (h : (d = .nil ∧ l = []) ∨ ∃ sp, d = .slice (l.map dP) sp) : wt l ≤ Rows.uptoBulk d := by
  rcases h with ⟨rfl, rfl⟩ | ⟨sp, rfl⟩
  · simp [wt]
  · simp only [Rows.uptoBulk, wt_bulk]; omega
theorem wt_length (l : List S36) : 4 * l.length ≤ wt l := by
  induction l with
  | nil => simp [wt]
  | cons p ps ih => simp only [wt, List.length_cons]; omega
theorem esc_le (l : List UInt8) : (Q.escB l).length ≤ 2 * l.length := by
  induction l with
  | nil => simp [Q.escB]
  | cons b l ih => simp only [Q.escB, List.length_append, List.length_cons]; split <;> simp <;> omega
theorem pc_le (p : S36) (op : Bool) : (Q.pcB p op).length ≤ 2 * p.f1.size + 9 := by
  unfold Q.pcB
  have := esc_le p.f1.data.toList
  rw [← Q.size_list] at this
  split
  · simp only [List.length_append, List.length_cons, List.length_nil]; split <;> simp <;> omega
  · split
    · simp [Q.beU]
    · simp
theorem enc_le (l : List S36) (a : Bool) : (Q.encB l a).length ≤ 3 * wt l := by
  induction l with
  | nil => simp [Q.encB]
  | cons p ps ih =>
    simp only [Q.encB, List.length_append, wt]
    have := pc_le p (a && ps.isEmpty)
    omega
end Go.Proofs.Ytjkljhcfbgcgoaa.R
