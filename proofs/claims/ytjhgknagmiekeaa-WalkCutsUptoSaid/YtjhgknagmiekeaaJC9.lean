/- joined: N2 N3 TR21 TR23 TR25 TR28 V1 N4 -/
import Derived.Test.YtjhgknagmiekeaaJC6
import Derived.Test.YtjhgknagmiekeaaJC7
import Derived.Test.YtjhgknagmiekeaaJC8
import Derived.Test.YtjhgknagmiekeaaJC5
import Derived.Laws.Concat
import Derived.Shelf.SlicesE.Delete
import Derived.Lib.OwnBridge
import Derived.Deep.RegionLaw
import Derived.RangeFuncNested
import Derived.RangeFuncBound
import Derived.RangeFuncCalls
import Derived.RangeFuncLeaves
import Derived.Shelf.Abstract
import Derived.Shelf.RegionOpen
import Derived.WalkKit
import Derived.OwnWalkIn
import Derived.TacticsInMore
import Derived.LoopNIn
import Derived.LoopIn
set_option linter.unusedVariables false
set_option linter.unusedSimpArgs false
namespace Go.Proofs.Ytjhgknagmiekeaa.N
open Go.RowKit Go.Proofs.Ytjhgknagmiekeaa.K Go.Proofs.YtjhgknagmiekeaaW.PrintWords Go.Proofs.YtjhgknagmiekeaaW.PrintLast
abbrev Sml (l : List ByteArray) : Prop := ∀ k ∈ l, k.size < 4611686018427387904
theorem rdOf_gd (l : List ByteArray) (j : Nat) : rdOf ByteArray.empty l (j : Int) = gd l j := by
  simp only [rdOf, gd, Int.toNat_natCast]
  rfl
theorem gd_mem {l : List ByteArray} {j : Nat} (h : j < l.length) : gd l j ∈ l := by rw [gd_get h]; exact List.getElem_mem _
theorem wsub (n : Nat) (h : 0 < n) (hh : n < 4611686018427387904) : wrap64 ((n : Int) - 1) = ((n - 1 : Nat) : Int) := by unfold wrap64; omega
theorem wadd (n : Nat) (hh : n < 4611686018427387904) : wrap64 ((n : Int) + 1) = ((n + 1 : Nat) : Int) := by unfold wrap64; omega
theorem ev_uniq {α : Type} {g : Nat → Option α} {v y : α} {k : Nat} (hg : ∀ k, LeO (g k) (g (k + 1))) (h : Ev g v) (e : g k = some y) : y = v := by
  obtain ⟨k1, hk1⟩ := h
  have h9 := hk1 (max k k1) (Nat.le_max_right _ _)
  rw [at_rounds hg (Nat.le_max_left k k1) e] at h9
  exact Option.some.inj h9
theorem shift_ev (l : List ByteArray) (a : ByteArray) (n : Nat) (hn : n ≤ l.length) (hlen : l.length < 4611686018427387904) : ∀ (d i : Nat) (y : ByteArray), i - n = d → n ≤ i → i ≤ l.length →
    Ev (fun k => musterref03_with.l0 k (l.take i ++ y :: l.drop i) a (n : Int) (i : Int)) (l.take n ++ a :: l.drop n) := by
  intro d
  induction d with
  | zero =>
    intro i y hd h1 h2
    have e : i = n := by omega
    subst e
    refine Ev.step (f := fun k => some (l.take i ++ a :: l.drop i)) (fun k => ?_) (Ev.now _)
    simp only [musterref03_with.l0]
    have hl : (l.take i ++ y :: l.drop i).length = l.length + 1 := by simp; omega
    rw [if_neg (by omega), if_pos (by omega), if_pos (by rw [hl]; omega)]
    congr 1
    rw [Int.toNat_natCast, List.set_append_right _ _ (by rw [List.length_take]; omega)]
    rw [List.length_take, Nat.min_eq_left h2, Nat.sub_self, List.set_cons_zero]
  | succ d ih =>
    intro i y hd h1 h2
    obtain ⟨j, rfl⟩ : ∃ j, i = j + 1 := ⟨i - 1, by omega⟩
    have hl : (l.take (j + 1) ++ y :: l.drop (j + 1)).length = l.length + 1 := by simp; omega
    refine Ev.step (f := fun k => musterref03_with.l0 k (l.take j ++ l[j]'(by omega) :: l.drop j) a (n : Int) (j : Int)) (fun k => ?_) (ih j _ (by omega) (by omega) (by omega))
    have e := wsub (j + 1) (by omega) (by omega)
    have e2 : rdOf ByteArray.empty (l.take (j + 1) ++ y :: l.drop (j + 1)) ((j + 1 - 1 : Nat) : Int) = l[j]'(by omega) := by
      rw [rdOf_gd, gd_get (by rw [hl]; omega), List.getElem_append_left (by rw [List.length_take]; omega), List.getElem_take]
      rfl
    have e3 : (l.take (j + 1) ++ y :: l.drop (j + 1)).set (j + 1) (l[j]'(by omega)) = l.take j ++ l[j]'(by omega) :: l.drop j := by
      rw [List.set_append_right _ _ (by rw [List.length_take]; omega), List.length_take, Nat.min_eq_left h2, Nat.sub_self, List.set_cons_zero, List.take_add_one, List.getElem?_eq_getElem (show j < l.length by omega), List.append_assoc]
      congr 1
      rw [List.drop_eq_getElem_cons (show j < l.length by omega)]
      rfl
    simp only [musterref03_with.l0]
    rw [if_pos (by omega), e, if_pos (by omega), if_pos (by rw [hl]; omega), if_pos (by omega), if_pos (by rw [hl]; omega), e2, Int.toNat_natCast, e3]
    rfl
def putIn (l : List ByteArray) (n : Nat) (b : Bool) (a : ByteArray) : List ByteArray := if b = true then l else l.take n ++ a :: l.drop n
theorem putIn_len (l : List ByteArray) (n : Nat) (b : Bool) (a : ByteArray) (h : n ≤ l.length) : (putIn l n b a).length ≤ l.length + 1 := by
  unfold putIn
  split
  · omega
  · simp; omega
theorem mem_putIn {l : List ByteArray} {n : Nat} {b : Bool} {a : ByteArray} (h : n ≤ l.length) (hb : b = true → a ∈ l) (x : ByteArray) : x ∈ putIn l n b a ↔ x ∈ l ∨ x = a := by
  unfold putIn
  split
  · rename_i e
    exact ⟨.inl, fun h => h.elim id (fun h => h ▸ hb e)⟩
  · rw [List.mem_append, List.mem_cons]
    constructor
    · rintro (h | h | h)
      · exact .inl (List.mem_of_mem_take h)
      · exact .inr h
      · exact .inl (List.mem_of_mem_drop h)
    · rintro (h | h)
      · rw [← List.take_append_drop n l, List.mem_append] at h
        exact h.elim .inl (fun h => .inr (.inr h))
      · exact .inr (.inl h)
theorem with_ex (l : List ByteArray) (a : ByteArray) (hlen : l.length < 8796093022208) (hs : Sml l) : ∃ (n : Nat) (b : Bool), n ≤ l.length ∧ Ev (fun k => musterref03_with.f k l a) (putIn l n b a) ∧ (b = true → a ∈ l) ∧ (Rise l → Cut l a n n ∧ (b = true ↔ a ∈ l)) := by
  obtain ⟨n, b, h1, h2, h3, h4⟩ := find_ex l a (by omega) hs
  refine ⟨n, b, h1, ?_, fun e => by have := h3 e; rw [← this.2]; exact gd_mem this.1, h4⟩
  refine Ev.congr (f := fun k => (musterref03_Find.f k l a).bind fun bt114 => if bt114.2 = true then some l else if l.length < 8796093022208 then ((some (l ++ [(⟨#[]⟩ : ByteArray)] : List ByteArray)).bind fun y116 => musterref03_with.l0 k y116 a bt114.1 (wrap64 ((y116.length : Int) - 1))) else none) (fun k => rfl) (Ev.bind h2 ?_)
  unfold putIn
  cases b with
  | true => exact Ev.now _
  | false =>
    have := shift_ev l a n h1 (by omega) (l.length - n) l.length ⟨#[]⟩ rfl h1 (Nat.le_refl _)
    rw [List.take_length, List.drop_length] at this
    refine Ev.congr (fun k => ?_) this
    simp only [if_neg (show ¬ false = true by simp), if_pos hlen, Option.bind_some]
    rw [List.length_append, List.length_singleton, show wrap64 (((l.length + 1 : Nat) : Int) - 1) = (l.length : Int) from by unfold wrap64; omega]
theorem common_ex (a b : ByteArray) (ha : a.size < 4611686018427387904) : ∃ m : Nat, m ≤ a.size ∧ m ≤ b.size ∧ Ev (fun k => musterref03_Common.f k a b) (a.extract 0 m) ∧ (∀ j, j < m → bt a j = bt b j) ∧ (m < a.size → m < b.size → bt a m ≠ bt b m) := by
  have key : ∀ d i : Nat, a.size - i = d → i ≤ a.size → i ≤ b.size → (∀ j : Nat, j < i → bt a j = bt b j) → ∃ m : Nat, m ≤ a.size ∧ m ≤ b.size ∧ Ev (fun k => musterref03_Common.l0 k a b (i : Int)) (a.extract 0 m) ∧ (∀ j : Nat, j < m → bt a j = bt b j) ∧ (m < a.size → m < b.size → bt a m ≠ bt b m) := by
    intro d
    induction d with
    | zero =>
      intro i hd h1 h2 h3
      refine ⟨i, h1, h2, ?_, h3, fun h => by omega⟩
      refine Ev.step (f := fun k => some (a.extract 0 i)) (fun k => ?_) (Ev.now _)
      simp only [musterref03_Common.l0]
      rw [if_neg (by omega), if_pos (by omega), if_pos (by omega), Int.toNat_natCast]
    | succ d ih =>
      intro i hd h1 h2 h3
      by_cases hb : i < b.size
      · by_cases he : bt a i = bt b i
        · obtain ⟨m, q1, q2, q3, q4, q5⟩ := ih (i + 1) (by omega) (by omega) (by omega) (fun j hj => by
            rcases Nat.lt_or_ge j i with h | h
            · exact h3 j h
            · have : j = i := by omega
              rw [this]; exact he)
          refine ⟨m, q1, q2, Ev.step (fun k => ?_) q3, q4, q5⟩
          simp only [musterref03_Common.l0]
          rw [if_pos (by omega), if_pos (by omega), if_pos (by omega), if_pos he, wadd i (by omega)]
        · refine ⟨i, h1, h2, ?_, h3, fun _ _ => he⟩
          refine Ev.step (f := fun k => some (a.extract 0 i)) (fun k => ?_) (Ev.now _)
          simp only [musterref03_Common.l0]
          rw [if_pos (by omega), if_pos (by omega), if_pos (by omega), if_neg he, if_pos (by omega), Int.toNat_natCast]
      · refine ⟨i, h1, h2, ?_, h3, fun _ h => absurd h hb⟩
        refine Ev.step (f := fun k => some (a.extract 0 i)) (fun k => ?_) (Ev.now _)
        simp only [musterref03_Common.l0]
        rw [if_pos (by omega), if_neg (by omega), if_pos (by omega), if_pos (by omega), Int.toNat_natCast]
  exact key a.size 0 (by omega) (by omega) (by omega) (fun j h => by omega)
theorem ext_size (a : ByteArray) (m : Nat) (h : m ≤ a.size) : (a.extract 0 m).size = m := by rw [ByteArray.size_extract]; omega
theorem paths_ex (keys : List ByteArray) (hlen : keys.length < 1000000000000) (hs : Sml keys) : ∃ r, Ev (fun k => musterref03_Paths.f k keys) r ∧ r.length ≤ 1 + 2 * keys.length ∧ Sml r ∧ 1 ≤ r.length := by
  have key : ∀ d i : Nat, keys.length - i = d → i ≤ keys.length → ∀ p : List ByteArray, p.length ≤ 1 + 2 * i → 1 ≤ p.length → Sml p → ∃ r, Ev (fun k => musterref03_Paths.l0 k keys p (i : Int)) r ∧ r.length ≤ 1 + 2 * keys.length ∧ Sml r ∧ 1 ≤ r.length := by
    intro d
    induction d with
    | zero =>
      intro i hd hi p hp h1 hsp
      refine ⟨p, Ev.step (f := fun k => some p) (fun k => ?_) (Ev.now _), by omega, hsp, h1⟩
      simp only [musterref03_Paths.l0]
      rw [if_neg (by omega)]
    | succ d ih =>
      intro i hd hi p hp h1 hsp
      have hlt : i < keys.length := by omega
      have hki := hs _ (gd_mem hlt)
      by_cases h0 : 0 < i
      · have hkp := hs _ (gd_mem (show i - 1 < keys.length by omega))
        obtain ⟨m, c1, c2, c3, -, -⟩ := common_ex (gd keys (i - 1)) (gd keys i) hkp
        obtain ⟨n1, b1, w1, w2, w3, -⟩ := with_ex p ((gd keys (i - 1)).extract 0 m) (by omega) hsp
        have l1 := putIn_len p n1 b1 ((gd keys (i - 1)).extract 0 m) w1
        have s1 : Sml (putIn p n1 b1 ((gd keys (i - 1)).extract 0 m)) := fun x hx => by
          rcases (mem_putIn w1 w3 x).1 hx with h | h
          · exact hsp x h
          · rw [h, ext_size _ _ c1]; omega
        have g1 : 1 ≤ (putIn p n1 b1 ((gd keys (i - 1)).extract 0 m)).length := by
          unfold putIn; split
          · exact h1
          · simp; omega
        obtain ⟨n2, b2, v1, v2, v3, -⟩ := with_ex _ (gd keys i) (by omega) s1
        have l2 := putIn_len (putIn p n1 b1 ((gd keys (i - 1)).extract 0 m)) n2 b2 (gd keys i) v1
        have s2 : Sml (putIn (putIn p n1 b1 ((gd keys (i - 1)).extract 0 m)) n2 b2 (gd keys i)) := fun x hx => by
          rcases (mem_putIn v1 v3 x).1 hx with h | h
          · exact s1 x h
          · rw [h]; exact hki
        have g2 : 1 ≤ (putIn (putIn p n1 b1 ((gd keys (i - 1)).extract 0 m)) n2 b2 (gd keys i)).length := by
          generalize hP : putIn p n1 b1 ((gd keys (i - 1)).extract 0 m) = P at *
          unfold putIn; split
          · exact g1
          · simp; omega
        obtain ⟨r, r1, r2, r3, r4⟩ := ih (i + 1) (by omega) (by omega) _ (by omega) g2 s2
        refine ⟨r, ?_, r2, r3, r4⟩
        refine Ev.step (f := fun k => (musterref03_Common.f k (gd keys (i - 1)) (gd keys i)).bind fun c => (musterref03_with.f k p c).bind fun t => (musterref03_with.f k t (gd keys i)).bind fun t2 => musterref03_Paths.l0 k keys t2 ((i + 1 : Nat) : Int)) (fun k => ?_) (Ev.bind c3 (Ev.bind w2 (Ev.bind v2 r1)))
        simp only [musterref03_Paths.l0]
        rw [if_pos (by omega), if_pos (by omega), wsub i h0 (by omega), if_pos (by omega), if_pos (by omega), if_pos (by omega), rdOf_gd, rdOf_gd, wadd i (by omega)]
      · obtain ⟨n2, b2, v1, v2, v3, -⟩ := with_ex p (gd keys i) (by omega) hsp
        have l2 := putIn_len p n2 b2 (gd keys i) v1
        have s2 : Sml (putIn p n2 b2 (gd keys i)) := fun x hx => by
          rcases (mem_putIn v1 v3 x).1 hx with h | h
          · exact hsp x h
          · rw [h]; exact hki
        have g2 : 1 ≤ (putIn p n2 b2 (gd keys i)).length := by
          unfold putIn; split
          · exact h1
          · simp; omega
        obtain ⟨r, r1, r2, r3, r4⟩ := ih (i + 1) (by omega) (by omega) _ (by omega) g2 s2
        refine ⟨r, ?_, r2, r3, r4⟩
        refine Ev.step (f := fun k => (musterref03_with.f k p (gd keys i)).bind fun t2 => musterref03_Paths.l0 k keys t2 ((i + 1 : Nat) : Int)) (fun k => ?_) (Ev.bind v2 r1)
        simp only [musterref03_Paths.l0]
        rw [if_pos (by omega), if_neg (by omega), if_pos (by omega), rdOf_gd, wadd i (by omega)]
  exact key keys.length 0 (by omega) (by omega) [⟨#[]⟩] (by simp) (by simp) (fun x hx => by
    rw [List.mem_singleton] at hx; subst hx; decide)
theorem starts_some (a b : ByteArray) : ∃ t, musterref01_Starts.f a b = some t := by
  unfold musterref01_Starts.f
  by_cases h : (a.size : Int) ≥ (b.size : Int)
  · rw [if_pos h, if_pos (by omega), if_pos (by omega)]
    exact ⟨_, rfl⟩
  · rw [if_neg h]
    exact ⟨_, rfl⟩
theorem remade_ex (op : List ByteArray) (om : List Int) (K : List ByteArray) (V L : List Int) (P0 : List ByteArray) (M0 : List Int) (k0 : List ByteArray) (v0 l0 : List Int) (a : ByteArray) (nx : Int)
    (hop : op.length = om.length) (hopl : op.length < 8796093022208) (hops : Sml op) (hK : K.length < 1000000000000) (hKs : Sml K) :
    ∃ (P : List ByteArray) (Mk : List Int) (nx' : Int), Ev (fun k => musterref03_remade.f k k0 v0 l0 op om K V L P0 M0 a nx) (K, V, L, P, Mk, nx') ∧ P.length = Mk.length ∧ P.length ≤ 1 + 2 * K.length ∧ Sml P := by
  obtain ⟨P, p1, p2, p3, -⟩ := paths_ex K hK hKs
  have key : ∀ d i : Nat, P.length - i = d → i ≤ P.length → ∀ (mk : List Int) (x : Int), mk.length = i → ∃ (Mk : List Int) (nx' : Int), Ev (fun k => musterref03_remade.l0 k a x P (P.length : Int) (i : Int) k0 v0 l0 op om K V L P mk) (K, V, L, P, Mk, nx') ∧ P.length = Mk.length := by
    intro d
    induction d with
    | zero =>
      intro i hd hi mk x hm
      refine ⟨mk, x, Ev.step (f := fun k => some (K, V, L, P, mk, x)) (fun k => ?_) (Ev.now _), by omega⟩
      simp only [musterref03_remade.l0]
      rw [if_neg (by omega)]
    | succ d ih =>
      intro i hd hi mk x hm
      have hlt : i < P.length := by omega
      obtain ⟨n, b, f1, f2, f3, -⟩ := find_ex op (gd P i) (by omega) hops
      cases b with
      | true =>
        have hn : n < op.length := (f3 rfl).1
        obtain ⟨t, ht⟩ := starts_some a (gd P i)
        cases t with
        | true =>
          obtain ⟨Mk, nx', r1, r2⟩ := ih (i + 1) (by omega) (by omega) (mk ++ [x]) (wrap64 (x + 1)) (by simp; omega)
          refine ⟨Mk, nx', Ev.step (f := fun k => (musterref03_Find.f k op (gd P i)).bind fun bt => if bt.2 = true then musterref03_remade.l0 k a (wrap64 (x + 1)) P (P.length : Int) ((i + 1 : Nat) : Int) k0 v0 l0 op om K V L P (mk ++ [x]) else none) (fun k => ?_) (Ev.bind f2 (by simpa using r1)), r2⟩
          simp only [musterref03_remade.l0]
          rw [if_pos (by omega), if_pos (by omega), if_pos (by omega), rdOf_gd, wadd i (by omega), ht]
          cases hq : musterref03_Find.f k op (gd P i) with
          | none => rfl
          | some y =>
            have hy := ev_uniq (fun m => musterref03_Find.mono op (gd P i) m) f2 hq
            subst hy
            simp [hm, show i < 17592186044416 by omega]
        | false =>
          obtain ⟨Mk, nx', r1, r2⟩ := ih (i + 1) (by omega) (by omega) (mk ++ [rd om n]) x (by simp; omega)
          refine ⟨Mk, nx', Ev.step (f := fun k => (musterref03_Find.f k op (gd P i)).bind fun bt => if bt = ((n : Int), true) then musterref03_remade.l0 k a x P (P.length : Int) ((i + 1 : Nat) : Int) k0 v0 l0 op om K V L P (mk ++ [rd om n]) else none) (fun k => ?_) (Ev.bind f2 (by simpa using r1)), r2⟩
          simp only [musterref03_remade.l0]
          rw [if_pos (by omega), if_pos (by omega), if_pos (by omega), rdOf_gd, wadd i (by omega), ht]
          cases hq : musterref03_Find.f k op (gd P i) with
          | none => rfl
          | some y =>
            have hy := ev_uniq (fun m => musterref03_Find.mono op (gd P i) m) f2 hq
            subst hy
            simp [hm, show i < 17592186044416 by omega, show n < om.length by omega]
      | false =>
        obtain ⟨Mk, nx', r1, r2⟩ := ih (i + 1) (by omega) (by omega) (mk ++ [x]) (wrap64 (x + 1)) (by simp; omega)
        refine ⟨Mk, nx', Ev.step (f := fun k => (musterref03_Find.f k op (gd P i)).bind fun bt => if bt = ((n : Int), false) then musterref03_remade.l0 k a (wrap64 (x + 1)) P (P.length : Int) ((i + 1 : Nat) : Int) k0 v0 l0 op om K V L P (mk ++ [x]) else none) (fun k => ?_) (Ev.bind f2 (by simpa using r1)), r2⟩
        simp only [musterref03_remade.l0]
        rw [if_pos (by omega), if_pos (by omega), if_pos (by omega), rdOf_gd, wadd i (by omega)]
        cases hq : musterref03_Find.f k op (gd P i) with
        | none => rfl
        | some y =>
          have hy := ev_uniq (fun m => musterref03_Find.mono op (gd P i) m) f2 hq
          subst hy
          simp [hm, show i < 17592186044416 by omega]
  obtain ⟨Mk, nx', q1, q2⟩ := key P.length 0 (by omega) (by omega) [] nx rfl
  exact ⟨P, Mk, nx', Ev.congr (fun k => rfl) (Ev.bind p1 q1), q2, p2, p3⟩
end Go.Proofs.Ytjhgknagmiekeaa.N
set_option linter.unusedVariables false
set_option linter.unusedSimpArgs false
namespace Go.Proofs.Ytjhgknagmiekeaa.N
open Go.RowKit Go.Proofs.Ytjhgknagmiekeaa.K Go.Proofs.YtjhgknagmiekeaaW.PrintWords Go.Proofs.YtjhgknagmiekeaaW.PrintLast
structure Rt where
  ks : List ByteArray
  vs : List Int
  ls : List Int
  ps : List ByteArray
  ms : List Int
structure Rok (t : Rt) : Prop where
  v : t.vs.length = t.ks.length
  l : t.ls.length = t.ks.length
  m : t.ps.length = t.ms.length
  p : t.ps.length ≤ 1 + 2 * t.ks.length
  sk : Sml t.ks
  sp : Sml t.ps
  rise : Rise t.ks
def putAt {α : Type} (l : List α) (n : Nat) (b : Bool) (a : α) : List α := l.take n ++ a :: l.drop (if b = true then n + 1 else n)
theorem putAt_len {α : Type} (l : List α) (n : Nat) (b : Bool) (a : α) (h : n ≤ l.length) (hb : b = true → n < l.length) : (putAt l n b a).length = if b = true then l.length else l.length + 1 := by
  unfold putAt
  cases b with
  | true => have := hb rfl; simp; omega
  | false => simp; omega
theorem mem_putAt {α : Type} {l : List α} {n : Nat} {b : Bool} {a x : α} (h : x ∈ putAt l n b a) : x ∈ l ∨ x = a := by
  unfold putAt at h
  rw [List.mem_append, List.mem_cons] at h
  rcases h with h | h | h
  · exact .inl (List.mem_of_mem_take h)
  · exact .inr h
  · exact .inl (List.mem_of_mem_drop h)
theorem zip_putAt {α β : Type} (l : List α) (r : List β) (n : Nat) (b : Bool) (a : α) (c : β) (h : l.length = r.length) (hn : n ≤ l.length) : (putAt l n b a).zip (putAt r n b c) = putAt (l.zip r) n b (a, c) := by
  unfold putAt
  rw [List.zip_append (by rw [List.length_take, List.length_take]; omega), List.zip_cons_cons]
  congr 1
  · exact List.take_zipWith.symm
  · rw [List.zip, List.drop_zipWith]
theorem cut_after {keys : List ByteArray} {a : ByteArray} {n : Nat} {b : Bool} (hr : Rise keys) (hc : Cut keys a n n) (hb : b = true → n < keys.length ∧ gd keys n = a) (hb2 : b = true ↔ a ∈ keys) (j : Nat) (h1 : (if b = true then n + 1 else n) ≤ j) (h2 : j < keys.length) : T.L a < T.L (gd keys j) := by
  cases b with
  | true =>
    obtain ⟨h3, h4⟩ := hb rfl
    rw [← h4]
    have h1' : n + 1 ≤ j := by simpa using h1
    exact hr.lt (by omega) h2
  | false =>
    have h1' : n ≤ j := by simpa using h1
    rcases T.blt_total (T.L a) (T.L (gd keys j)) with h | h | h
    · exact h
    · exfalso
      have := T.L_inj h
      have h5 : a ∈ keys := by rw [this]; exact gd_mem h2
      exact absurd (hb2.2 h5) (by simp)
    · exact absurd h (hc.2 j h1' h2)
theorem mem_take_gd {l : List ByteArray} {n : Nat} {x : ByteArray} (h : x ∈ l.take n) : ∃ j, j < n ∧ j < l.length ∧ gd l j = x := by
  obtain ⟨j, hj, e⟩ := List.getElem_of_mem h
  rw [List.length_take] at hj
  refine ⟨j, by omega, by omega, ?_⟩
  rw [gd_get (by omega), ← e, List.getElem_take]
theorem mem_drop_gd {l : List ByteArray} {n : Nat} {x : ByteArray} (h : x ∈ l.drop n) : ∃ j, n ≤ j ∧ j < l.length ∧ gd l j = x := by
  obtain ⟨j, hj, e⟩ := List.getElem_of_mem h
  rw [List.length_drop] at hj
  refine ⟨n + j, by omega, by omega, ?_⟩
  rw [gd_get (by omega), ← e, List.getElem_drop]
theorem rise_put {keys : List ByteArray} {a : ByteArray} {n : Nat} {b : Bool} (hr : Rise keys) (hc : Cut keys a n n) (hb : b = true → n < keys.length ∧ gd keys n = a) (hb2 : b = true ↔ a ∈ keys) : Rise (putAt keys n b a) := by
  unfold Rise putAt
  have h1 : ∀ x ∈ keys.take n, T.L x < T.L a := fun x hx => by
    obtain ⟨j, h1, -, rfl⟩ := mem_take_gd hx
    exact hc.1 j h1
  have h2 : ∀ x ∈ keys.drop (if b = true then n + 1 else n), T.L a < T.L x := fun x hx => by
    obtain ⟨j, h1, h3, rfl⟩ := mem_drop_gd hx
    exact cut_after hr hc hb hb2 j h1 h3
  unfold Rise at hr
  rw [List.pairwise_map] at hr ⊢
  rw [List.pairwise_append, List.pairwise_cons]
  refine ⟨hr.sublist (List.take_sublist _ _), ⟨h2, hr.sublist (List.drop_sublist _ _)⟩, fun x hx y hy => ?_⟩
  rw [List.mem_cons] at hy
  rcases hy with rfl | hy
  · exact h1 x hx
  · exact T.blt_trans (h1 x hx) (h2 y hy)
theorem insert_ex (t : Rt) (h : Rok t) (a : ByteArray) (v nx : Int) (ha : a.size < 4611686018427387904) (hl : t.ks.length < 100000000000) :
    ∃ (n : Nat) (b : Bool) (P : List ByteArray) (M : List Int) (old nx' : Int), n ≤ t.ks.length ∧ (b = true → n < t.ks.length ∧ gd t.ks n = a) ∧ (b = true ↔ a ∈ t.ks) ∧ Cut t.ks a n n ∧
      Ev (fun k => musterref03_Insert.f k t.ks t.vs t.ls t.ps t.ms a v nx) (putAt t.ks n b a, putAt t.vs n b v, putAt t.ls n b nx, P, M, old, b, nx') ∧ Rok ⟨putAt t.ks n b a, putAt t.vs n b v, putAt t.ls n b nx, P, M⟩ := by
  obtain ⟨n, b, f1, f2, f3, f4⟩ := find_ex t.ks a (by omega) h.sk
  obtain ⟨hc, hb⟩ := f4 h.rise
  have e1 := putAt_len t.ks n b a f1 (fun e => (f3 e).1)
  have e2 := putAt_len t.vs n b v (by rw [h.v]; exact f1) (fun e => by rw [h.v]; exact (f3 e).1)
  have e3 := putAt_len t.ls n b nx (by rw [h.l]; exact f1) (fun e => by rw [h.l]; exact (f3 e).1)
  have hK : (putAt t.ks n b a).length ≤ t.ks.length + 1 := by rw [e1]; split <;> omega
  have hKs : Sml (putAt t.ks n b a) := fun x hx => by
    rcases mem_putAt hx with h1 | h1
    · exact h.sk x h1
    · rw [h1]; exact ha
  have hp := h.p
  obtain ⟨P, M, nx', r1, r2, r3, r4⟩ := remade_ex t.ps t.ms (putAt t.ks n b a) (putAt t.vs n b v) (putAt t.ls n b nx) [] [] t.ks t.vs t.ls a (wrap64 (nx + 1)) h.m (by omega) h.sp (by omega) hKs
  have hv := h.v
  have hll := h.l
  refine ⟨n, b, P, M, if b = true then rd t.vs n else 0, nx', f1, f3, hb, hc, ?_, ⟨by show (putAt t.vs n b v).length = (putAt t.ks n b a).length; rw [e1, e2, h.v], by show (putAt t.ls n b nx).length = (putAt t.ks n b a).length; rw [e1, e3, h.l], r2, r3, hKs, r4, rise_put h.rise hc f3 hb⟩⟩
  have hs : Ev (fun k => (musterref03_remade.f k t.ks t.vs t.ls t.ps t.ms (putAt t.ks n b a) (putAt t.vs n b v) (putAt t.ls n b nx) [] [] a (wrap64 (nx + 1))).bind fun bt => some (bt.1, bt.2.1, bt.2.2.1, bt.2.2.2.1, bt.2.2.2.2.1, (if b = true then rd t.vs n else 0), b, bt.2.2.2.2.2)) (putAt t.ks n b a, putAt t.vs n b v, putAt t.ls n b nx, P, M, (if b = true then rd t.vs n else 0), b, nx') := Ev.bind r1 (Ev.now _)
  unfold musterref03_Insert.f
  refine Ev.bind f2 (Ev.congr (fun k => ?_) hs)
  dsimp only
  cases b with
  | false =>
    simp only [Option.bind_some]
    unfold putAt
    simp only [if_neg (show ¬ false = true by simp)]
    simp (disch := ((try simp only [List.length_append, List.length_take, List.length_nil, List.length_cons, List.length_drop, Int.toNat_natCast]); omega)) only [if_pos, if_true, List.nil_append, Int.toNat_natCast, List.append_assoc, List.singleton_append]
  | true =>
    obtain ⟨g1, g2⟩ := f3 rfl
    simp only [Option.bind_some]
    unfold putAt
    rw [wadd n (by omega)]
    simp (disch := ((try simp only [List.length_append, List.length_take, List.length_nil, List.length_cons, List.length_drop, Int.toNat_natCast]); omega)) only [if_pos, if_true, List.nil_append, Int.toNat_natCast, List.append_assoc, List.singleton_append]
end Go.Proofs.Ytjhgknagmiekeaa.N
set_option linter.unusedVariables false
set_option linter.unusedSimpArgs false
namespace Go.Proofs.Ytjhgknagmiekeaa.T
open Go.Shelf
open Go.RowKit Go.Lib Go.Proofs Go.Proofs.YtjhgknagmiekeaaW.PrintWords
def spot (k : Nd) : Option Addr := some ⟨k.b, 0, none⟩
end Go.Proofs.Ytjhgknagmiekeaa.T
set_option linter.unusedVariables false
set_option linter.unusedSimpArgs false
namespace Go.Proofs.Ytjhgknagmiekeaa.T
open Go.RowKit Go.Lib Go.Proofs Go.Proofs.YtjhgknagmiekeaaW.PrintWords
theorem belowAt {w w1 w2 : World} (h : Below w.heap.size w w1) (h2 : Below w1.heap.size w1 w2) : Below w.heap.size w w2 :=
  h.trans ⟨h2.os, h2.tape, h2.output, h2.size, fun x hx => h2.block x (by have := h.size; omega)⟩
end Go.Proofs.Ytjhgknagmiekeaa.T
set_option linter.unusedVariables false
set_option linter.unusedSimpArgs false
namespace Go.Proofs.Ytjhgknagmiekeaa.T
open Go.RowKit Go.Lib Go.Proofs Go.Proofs.YtjhgknagmiekeaaW.PrintWords
def nodeV (b : Nat) (path : ByteArray) : Value := .agg #[ptr b, .string path]
set_option maxHeartbeats 4000000 in
set_option maxRecDepth 100000 in
theorem rootC (w : World) (tb : Nat) (root : Nd) (size : Int) (h : TrAt w tb root size) : Calls Try.prog 42 #[ptr tb] w fun e w' => e = .returned (nodeV root.b ⟨#[]⟩) ∧ Below w.heap.size w w' := by
  have c0 : w.cell? ⟨tb, 0, none⟩ = some (.pointer (some ⟨root.b, 0, none⟩)) := by rw [blk_cell h.blk]; rfl
  have HB := Aside0.mk ((Below.refl w.heap.size w).alloc (Nat.le_refl _) (.cells #[.pointer (some ⟨root.b, 0, none⟩), .string ⟨#[]⟩] 60))
  have c1 : (w.alloc (.cells #[.pointer none, .string ⟨#[]⟩] 60)).cell? ⟨tb, 0, none⟩ = some (.pointer (some ⟨root.b, 0, none⟩)) := cellA c0
  clear h c0
  unfold nodeV ptr
  go_enter Try.func42, Try.ntmps42
  go_wp2_with fail
  exact bodyPost_ret (v := .agg #[.pointer (some ⟨root.b, 0, none⟩), .string ⟨#[]⟩]) (by simp [results, Try.results42, go_sem]) rfl ⟨rfl, HB.out⟩
set_option maxHeartbeats 4000000 in
set_option maxRecDepth 100000 in
theorem pathC (w : World) (b : Nat) (path : ByteArray) : Calls Try.prog 94 #[nodeV b path] w fun e w' => e = .returned (.string path) ∧ Below w.heap.size w w' := by
  have HB := Aside0.mk ((Below.refl w.heap.size w).alloc (Nat.le_refl _) (.cells #[.pointer (some ⟨b, 0, none⟩), .string path] 60))
  unfold nodeV ptr
  go_enter Try.func94, Try.ntmps94
  go_wp2_with fail
  go_ret
  exact ⟨rfl, HB.out⟩
def lookV : Option Lf → Value
  | none => .tuple #[.int .i64 0, .bool false]
  | some l => .tuple #[l.val, .bool true]
set_option maxHeartbeats 4000000 in
set_option maxRecDepth 100000 in
theorem valueC (w : World) (n : Nd) (path : ByteArray) (hn : NdAt w n) : Calls Try.prog 93 #[nodeV n.b path] w fun e w' => e = .returned (lookV n.leaf) ∧ Below w.heap.size w w' := by
  have HB := Aside0.mk ((Below.refl w.heap.size w).alloc (Nat.le_refl _) (.cells #[.pointer (some ⟨n.b, 0, none⟩), .string path] 60))
  have hn1 := NdAt.keep (Kept.of HB.out) n hn
  obtain ⟨kv, hb, hr, hl, hk⟩ := hn1.parts
  obtain ⟨lp, elp⟩ := leafPtr_form n.leaf
  have c1 : (w.alloc (.cells #[.pointer (some ⟨n.b, 0, none⟩), .string path] 60)).cell? ⟨n.b, 1, none⟩ = some (.pointer lp) := by rw [blk_cell hb, elp]; rfl
  have q := told (w.alloc (.cells #[.pointer (some ⟨n.b, 0, none⟩), .string path] 60)) n.leaf hl
  rw [elp] at q
  obtain ⟨a, b, c, ha, hla⟩ : ∃ a b c, toldV n.leaf = .tuple #[a, b, c] ∧ lookV n.leaf = .tuple #[b, c] := by cases n.leaf <;> exact ⟨_, _, _, rfl, rfl⟩
  rw [ha] at q
  rw [hla]
  have q1 := Aside0.mk q
  clear hn hn1 hb hr hl hk elp q ha hla
  unfold nodeV ptr
  go_enter Try.func93, Try.ntmps93
  go_wp2_with (go_at_call 87; refine q1.out.mono ?_; rintro e w1 ⟨rfl, Q1⟩; have HQ := Aside0.mk Q1; clear Q1)
  go_ret2
  exact ⟨rfl, HB.out.trans (HQ.out.below _)⟩
def NodeRow (w : World) (v : Value) (xs : List (Nat × ByteArray)) : Prop := ∃ A c, v = .slice A xs.length c ∧ ∀ i (h : i < xs.length), ∃ g, A = some ⟨g, 0, none⟩ ∧ w.cell? ⟨g, i * 2, none⟩ = some (ptr xs[i].1) ∧ w.cell? ⟨g, i * 2 + 1, none⟩ = some (.string xs[i].2)
theorem NodeRow.keep {w w' : World} {v : Value} {xs : List (Nat × ByteArray)} (h : NodeRow w v xs) (k : Kept w w') : NodeRow w' v xs := by
  obtain ⟨A, c, e, h⟩ := h
  refine ⟨A, c, e, fun i hi => ?_⟩
  obtain ⟨g, e1, h1, h2⟩ := h i hi
  exact ⟨g, e1, k.cell h1, k.cell h2⟩
def flatK (path : ByteArray) (ks : List Nd) : List Value := ks.flatMap fun k => [ptr k.b, .string (path ++ k.label)]
theorem flatK_snoc (path : ByteArray) (ks : List Nd) (k : Nd) : flatK path (ks ++ [k]) = flatK path ks ++ [ptr k.b, .string (path ++ k.label)] := by simp [flatK]
theorem flatK_get (path : ByteArray) : ∀ (ks : List Nd) (i : Nat) (h : i < ks.length), (flatK path ks)[i * 2]? = some (ptr ks[i].b) ∧ (flatK path ks)[i * 2 + 1]? = some (.string (path ++ ks[i].label))
  | k :: ks, 0, _ => by simp [flatK]
  | k :: ks, i + 1, h => by
    have ih := flatK_get path ks i (by simpa using h)
    have e : flatK path (k :: ks) = ptr k.b :: .string (path ++ k.label) :: flatK path ks := rfl
    rw [e, show (i + 1) * 2 = i * 2 + 1 + 1 by omega, show i * 2 + 1 + 1 + 1 = (i * 2 + 1) + 1 + 1 by omega]
    simpa using ih
theorem infoNode : (Try.prog.info? 60).map (fun i => (i.zero, i.size, i.bytes)) = some (some (.agg #[.pointer none, .string ⟨#[]⟩]), 2, 24) := by kernel_rfl
set_option maxHeartbeats 4000000 in
set_option maxRecDepth 100000 in
theorem kidsO (w : World) (n : Nd) (path : ByteArray) (hn : NdAt w n) (ho : Ok n) (hp : ∀ k ∈ n.kids, path.size + k.label.size < 9000000000000000000) :
    Calls Try.prog 95 #[nodeV n.b path] w fun e w' => ∃ v, e = .returned v ∧ w'.ownsRow (w.heap.size + 1) 60 2 v n.kids.length (flatK path n.kids) ∧ Below w.heap.size w w' := by
  obtain ⟨i0, hi, hz0, hz1, hz2⟩ := info_parts infoNode
  have hfew := ho.few
  have HB := Aside0.mk ((Below.refl w.heap.size w).alloc (Nat.le_refl _) (.cells #[.pointer (some ⟨n.b, 0, none⟩), .string path] 60))
  have hn1 := NdAt.keep (Kept.of HB.out) n hn
  obtain ⟨kv, hb, hr, hl, hk⟩ := hn1.parts
  obtain ⟨A, c, rfl, hrc⟩ := hr.open
  have elen : (ptrs n.kids).length = n.kids.length := by simp [ptrs]
  rw [elen] at hb
  obtain ⟨len, hlen⟩ : ∃ len, n.kids.length = len := ⟨_, rfl⟩
  have c2 : (w.alloc (.cells #[.pointer (some ⟨n.b, 0, none⟩), .string path] 60)).cell? ⟨n.b, 2, none⟩ = some (.slice A len c) := by rw [blk_cell hb, ← hlen]; rfl
  have HR := Aside0.mk (And.intro hrc (And.intro hk (And.intro hp hlen)))
  have hbox := heap_alloc_new w (.cells #[.pointer (some ⟨n.b, 0, none⟩), .string path] 60)
  have HX := Aside0.mk hbox
  have hl256 : len ≤ 256 := by omega
  have HI := Aside0.mk (And.intro hi (And.intro hz0 (And.intro hz1 hz2)))
  clear hn hn1 ho hp hb hr hl hk hrc elen hfew hbox hi hz0 hz1 hz2
  unfold nodeV ptr
  go_enter Try.func95, Try.ntmps95
  go_wp2_with fail
  go_loopg [3, 5, 12] (len + 1) (fun kq v3 v5 v12 w' => ∃ i : Nat, v12 = .int .i64 (i : Int) ∧ Aside0 (i + kq = len + 1 ∧ i ≤ len) ∧ Aside0 (w'.ownsRow (w.heap.size + 1) 60 2 v3 i (flatK path (n.kids.take i))) ∧ Aside0 (Below (w.heap.size + 1) (w.alloc (.cells #[.pointer (some ⟨n.b, 0, none⟩), .string path] 60)) w'))
  case atStart => exact ⟨0, rfl, ⟨by omega⟩, ⟨World.ownsRow_nil _ _ _ _⟩, ⟨Below.refl _ _⟩⟩
  case round =>
    obtain ⟨i, rfl, HQ, HO, HW⟩ := hrel
    by_cases hlt : i < len
    · have hi' : i < n.kids.length := by rw [HR.out.2.2.2]; exact hlt
      obtain ⟨ad, eA, hca⟩ := HR.out.1 i (by simpa [ptrs] using hi')
      obtain ⟨k, ek⟩ : ∃ k, n.kids[i] = k := ⟨_, rfl⟩
      have hkm : k ∈ n.kids := by rw [← ek]; exact List.getElem_mem _
      have epk : (ptrs n.kids)[i]'(by simpa [ptrs] using hi') = ptr k.b := by simp [ptrs, ek]
      rw [epk] at hca
      obtain ⟨kv2, hb2, _⟩ := (HR.out.2.1.mem k hkm).parts
      have KW : Kept (w.alloc (.cells #[.pointer (some ⟨n.b, 0, none⟩), .string path] 60)) wr := Kept.of (by have := HW.out; rwa [World.size_alloc])
      have d0 : wr.cell? ⟨k.b, 0, none⟩ = some (.string k.label) := by rw [blk_cell (KW.at hb2)]; rfl
      have d1 : wr.cell? (ad.add i) = some (.pointer (some ⟨k.b, 0, none⟩)) := KW.cell hca
      have e1 : wr.cell? ⟨w.heap.size, 1, none⟩ = some (.string path) := by rw [blk_cell (KW.at HX.out)]; rfl
      have hadd := fun w1 : World => run_string_add_sum (P := Try.prog) w1 path k.label (by have := HR.out.2.2.1 k hkm; omega)
      have HK := Aside0.mk (show n.kids[i]? = some k by rw [List.getElem?_eq_getElem hi', ek])
      have hltI : (i : Int) < (len : Int) := by omega
      have ew : IntKind.i64.wrap ((i : Int) + 1) = (i : Int) + 1 := by rw [IntKind.wrap_i64]; omega
      subst eA
      clear hca ek hkm epk hb2 KW hi'
      go_wp2_with fail
      have h1c : Aside0 (∀ u ∈ [Value.pointer (some ⟨k.b, 0, none⟩), Value.string (path ++ k.label)], u.oneCell' = true) := ⟨by simp [Value.oneCell']⟩
      have HO2 : Aside0 (wr.drew.ownsRow (w.heap.size + 1) 60 2 u3 i (flatK path (n.kids.take i))) := ⟨HO.out⟩
      have HW2 : Aside0 (Below (w.heap.size + 1) (w.alloc (.cells #[.pointer (some ⟨n.b, 0, none⟩), .string path] 60)) wr.drew) := ⟨⟨HW.out.os, HW.out.tape, HW.out.output, HW.out.size, HW.out.block⟩⟩
      have hbs : Aside0 (w.heap.size + 1 ≤ wr.drew.heap.size) := ⟨by have := HW.out.size; rw [World.size_alloc] at this; exact this⟩
      have hbl : Aside0 ((i + 1) * 24 ≤ 140737488355328) := ⟨by omega⟩
      go_region_law (refine step_append_cells (w0 := w.alloc (.cells #[.pointer (some ⟨n.b, 0, none⟩), .string path] 60)) (W := wr.drew) (w.heap.size + 1) rfl (.tmp 16) (.tmp 26) 132 60 (.agg #[.pointer none, .string ⟨#[]⟩]) 2 24 rfl Try.underlying132 infoNode rfl (by decide) (by decide) u3 i _ [.pointer (some ⟨k.b, 0, none⟩), .string (path ++ k.label)] (by simp [Act.eval, Act.put]) (by simp [Act.eval, Act.put]) rfl h1c.out HO2.out HW2.out hbs.out hbl.out ?_; intro v1 w2 o1 b1 g1 at1; have H1 := Aside0.mk (And.intro o1 b1); clear o1 b1 g1 at1)
      all_goals
        go_wp2_with fail
        go_roundg (len - i)
        case measure => have := HQ.out; omega
        case rel =>
          refine ⟨i + 1, by simp, ⟨by have := HQ.out; omega⟩, ⟨?_⟩, ⟨H1.out.2⟩⟩
          have e : n.kids.take (i + 1) = n.kids.take i ++ [k] := by
            rw [List.take_add_one, HK.out]; rfl
          rw [e, flatK_snoc]
          exact H1.out.1
    · have hin : i = len := by have := HQ.out; omega
      subst hin
      go_wp2_with fail
      go_ret
      have e : n.kids.take i = n.kids := List.take_of_length_le (by rw [HR.out.2.2.2]; exact Nat.le_refl _)
      have ho := HO.out
      rw [e] at ho
      have hB := HW.out
      have hl := HR.out.2.2.2
      rw [← hl] at ho
      exact ⟨_, rfl, ho, HB.out.trans ⟨hB.os, hB.tape, hB.output, hB.size, fun x hx => hB.block x (by omega)⟩⟩
end Go.Proofs.Ytjhgknagmiekeaa.T
set_option linter.unusedVariables false
set_option linter.unusedSimpArgs false
namespace Go.Proofs.Ytjhgknagmiekeaa.T
open Go.RowKit Go.Lib Go.Proofs Go.Proofs.YtjhgknagmiekeaaW.PrintWords
structure Tr (w : World) (tb : Nat) (root : Nd) : Prop where
  at_ : TrAt w tb root ((All root).length : Int)
  fine : Fine root
  vals : IntVals root
theorem Tr.keep {w w' : World} {tb : Nat} {root : Nd} (h : Tr w tb root) (k : Kept w w') : Tr w' tb root := ⟨h.at_.keep k, h.fine, h.vals⟩
def gotV : Option Value → Value
  | none => .tuple #[.int .i64 0, .bool false]
  | some v => .tuple #[v, .bool true]
def wasV (tb : Nat) : Option Value → Value
  | none => .tuple #[ptr tb, .int .i64 0, .bool false]
  | some v => .tuple #[ptr tb, v, .bool true]
theorem newC (w : World) : Calls Try.prog 45 #[] w fun e w' => ∃ tb root, e = .returned (ptr tb) ∧ Tr w' tb root ∧ (∀ r, valT root r = none) ∧ All root = [] ∧ Below w.heap.size w w' := by
  refine (treeNew w).mono ?_
  rintro e w' ⟨tb, b, m, rfl, h1, h2, h3, h4, h5⟩
  exact ⟨tb, emptyN b m, rfl, ⟨by rw [all_empty]; exact h1, fine_empty b m, vals_empty b m⟩, valT_empty b m, all_empty b m, h5⟩
theorem getC (w : World) (tb : Nat) (root : Nd) (h : Tr w tb root) (k : ByteArray) (hk : k.size < 4000000000000) : Calls Try.prog 35 #[ptr tb, .string k] w fun e w' => e = .returned (gotV (valT root (L k))) ∧ Below w.heap.size w w' := by
  refine (treeGet w tb root _ k h.at_ h.fine.ok h.fine.sm h.fine.top hk).mono ?_
  rintro e w' ⟨rfl, hB⟩
  refine ⟨?_, hB⟩
  rw [seek_eq h.fine.toGood]
  unfold valT
  cases findT root (L k) <;> rfl
theorem insC (w : World) (tb : Nat) (root : Nd) (h : Tr w tb root) (k : ByteArray) (v : Int) (hk : k.size < 4000000000000) (hs : (All root).length < 3999999999999) :
    Calls Try.prog 43 #[ptr tb, .string k, .int .i64 v] w fun e w' => ∃ tb' root', e = .returned (wasV tb' (valT root (L k))) ∧ Tr w' tb' root' ∧ (∀ r, valT root' r = if r = L k then some (.int .i64 v) else valT root r) ∧ (All root').length ≤ (All root).length + 1 ∧ Below w.heap.size w w' := by
  refine (treeInsert w tb root _ v k h.at_ h.fine.ok h.fine.sm hk (by omega) (by omega)).mono ?_
  rintro e w' ⟨tb', lb, m, ns, had, old, rfl, h1, h2, h3, h4, h5, h6, hB⟩
  have hg := fine_ins h.fine k hk ⟨lb, k, .int .i64 v, m⟩ rfl ns
  have hl := len_ins h.fine.toGood k ⟨lb, k, .int .i64 v, m⟩ ns hg.toGood
  rw [find_eq h.fine.toGood] at h2
  refine ⟨tb', insN root k ⟨lb, k, .int .i64 v, m⟩ ns, ?_, ⟨?_, hg, vals_ins h.fine.toGood h.vals k _ v rfl ns⟩, valT_ins h.fine.toGood k _ ns, ?_, hB⟩
  · unfold valT
    cases e : findT root (L k) with
    | none => rw [e] at h2; cases h2; rfl
    | some l => rw [e] at h2; cases h2; rfl
  · have e : (All root).length + incr had = ((All (insN root k ⟨lb, k, .int .i64 v, m⟩ ns)).length : Int) := by
      rw [hl]
      cases e : findT root (L k) with
      | none => rw [e] at h2; cases h2; rfl
      | some l => rw [e] at h2; cases h2; rfl
    rw [← e]
    exact h1
  · have : (if findT root (L k) = none then (1 : Int) else 0) ≤ 1 := by split <;> omega
    omega
end Go.Proofs.Ytjhgknagmiekeaa.T
set_option linter.unusedVariables false
set_option linter.unusedSimpArgs false
namespace Go.Proofs.Ytjhgknagmiekeaa.V
open Go.RowKit Go.Lib Go.Proofs Go.Proofs.YtjhgknagmiekeaaW.PrintWords Go.Proofs.Ytjhgknagmiekeaa.T
structure KpM (n₁ : Nat) (M : Nat → Prop) (W W' : World) : Prop where
  size : W.heap.size ≤ W'.heap.size
  low : ∀ (k : Nat) (o : Obj), W.heap[k]? = some o → k < n₁ → ¬ M k → W'.heap[k]? = some o
  node : ∀ (k : Nat) (cs : Array Value) (fr : Nat × Nat), W.heap[k]? = some (Obj.cells cs 60 fr) → W'.heap[k]? = some (Obj.cells cs 60 fr)
theorem KpM.trans {n₁ : Nat} {M : Nat → Prop} {A B C : World} (h : KpM n₁ M A B) (k : KpM n₁ M B C) : KpM n₁ M A C :=
  ⟨Nat.le_trans h.size k.size, fun i o hi h1 h2 => k.low i o (h.low i o hi h1 h2) h1 h2, fun i cs fr hi => k.node i cs fr (h.node i cs fr hi)⟩
theorem KpM.of {n₁ : Nat} {M : Nat → Prop} {W W' : World} (h : Below W.heap.size W W') : KpM n₁ M W W' :=
  ⟨h.size, fun k o hk _ _ => (h.block k (Array.getElem?_eq_some_iff.1 hk).1).trans hk, fun k cs fr hk => (h.block k (Array.getElem?_eq_some_iff.1 hk).1).trans hk⟩
theorem KpM.putObj {n₁ : Nat} {M : Nat → Prop} (W : World) (l : Nat) (o o' : Obj) (hn : n₁ ≤ l) (hl : W.heap[l]? = some o) (hc : o.isCells = false) : KpM n₁ M W (W.putObj l o') := by
  have hg := grownBy_putObj' W l o'
  refine ⟨hg.size, fun k x hk h1 h2 => ?_, fun k cs fr hk => ?_⟩
  · exact (hg.block k (Array.getElem?_eq_some_iff.1 hk).1 (fun e => by cases e; omega)).trans hk
  · refine (hg.block k (Array.getElem?_eq_some_iff.1 hk).1 (fun e => ?_)).trans hk
    cases e
    rw [hk] at hl
    cases hl
    cases hc
def Stnd (wI : World) (n₁ : Nat) (M : Nat → Prop) (W : World) : Prop := ∀ (k : Nat) (o : Obj), wI.heap[k]? = some o → k < n₁ → ¬ M k → W.heap[k]? = some o
theorem Stnd.refl (wI : World) (n₁ : Nat) (M : Nat → Prop) : Stnd wI n₁ M wI := fun _ _ h _ _ => h
theorem Stnd.kp {wI : World} {n₁ : Nat} {M : Nat → Prop} {W W' : World} (h : Stnd wI n₁ M W) (k : KpM n₁ M W W') : Stnd wI n₁ M W' := fun i o h0 h1 h2 => k.low i o (h i o h0 h1 h2) h1 h2
theorem Stnd.kept {wB wI : World} {n₁ : Nat} {M : Nat → Prop} {W : World} (h : Stnd wI n₁ M W) (hk : Kept wB wI) (hn : wB.heap.size ≤ n₁) (hM : ∀ k, k < wB.heap.size → ¬ M k) : Kept wB W := fun k hlt => by
  have e : wB.heap[k]? = some wB.heap[k] := Array.getElem?_eq_getElem hlt
  rw [e]
  exact h k _ ((hk k hlt).trans e) (by omega) (hM k hlt)
def valI : Value → Int
  | .int _ v => v
  | _ => 0
def ownE (kp : ByteArray → Bool) (p : ByteArray) : Option Lf → List (ByteArray × Int)
  | some l => if kp p then [(p, valI l.val)] else []
  | none => []
mutual
/-- the entries at and beneath a node, rising; sk: which subtrees are left out; kp: which keys are given -/
def ovr (sk kp : ByteArray → Bool) (p : ByteArray) : Nd → List (ByteArray × Int)
  | .mk _ _ leaf kids _ => if sk p then [] else ownE kp p leaf ++ ovrs sk kp p kids
def ovrs (sk kp : ByteArray → Bool) (p : ByteArray) : List Nd → List (ByteArray × Int)
  | [] => []
  | k :: r => ovr sk kp (p ++ k.label) k ++ ovrs sk kp p r
end
theorem ovr_eq (sk kp : ByteArray → Bool) (p : ByteArray) (n : Nd) : ovr sk kp p n = if sk p then [] else ownE kp p n.leaf ++ ovrs sk kp p n.kids := by
  cases n with
  | mk b label leaf kids mark => rw [ovr]; rfl
theorem ovrs_snoc (sk kp : ByteArray → Bool) (p : ByteArray) (k : Nd) : ∀ ks : List Nd, ovrs sk kp p (ks ++ [k]) = ovrs sk kp p ks ++ ovr sk kp (p ++ k.label) k
  | [] => by simp [ovrs]
  | x :: r => by rw [List.cons_append, ovrs, ovrs, ovrs_snoc sk kp p k r, List.append_assoc]
theorem ovrs_take (sk kp : ByteArray → Bool) (p : ByteArray) (ks : List Nd) (i : Nat) (h : i < ks.length) : ovrs sk kp p (ks.take (i + 1)) = ovrs sk kp p (ks.take i) ++ ovr sk kp (p ++ ks[i].label) ks[i] := by
  have e : ks.take (i + 1) = ks.take i ++ [ks[i]] := by rw [List.take_add_one, List.getElem?_eq_getElem h]; rfl
  rw [e, ovrs_snoc]
theorem ovrs_pre (sk kp : ByteArray → Bool) (p : ByteArray) : ∀ (ks : List Nd) (i : Nat), ovrs sk kp p (ks.take i) <+: ovrs sk kp p ks
  | [], i => by simp
  | k :: r, 0 => by simp [ovrs]
  | k :: r, i + 1 => by
    rw [List.take_succ_cons, ovrs, ovrs]
    exact (List.prefix_append_right_inj _).2 (ovrs_pre sk kp p r i)
def Abd {β : Type} (J : β → World → Prop) : Prop := ∀ s W W', J s W → Below W.heap.size W W' → J s W'
theorem abide {β : Type} {J : β → World → Prop} (h : Abd J) {s : β} {W W' : World} (hs : J s W) (hb : Below W.heap.size W W') : J s W' := h s W W' hs hb
theorem abd_of {β : Type} {B : Nat} {J : β → World → Prop} (h : AbidesFrom B J) : Abd J := fun s W W' hs hb => h s W W' none hs ⟨hb.os, hb.tape, hb.output, hb.size, fun k hk _ => hb.block k hk⟩ (fun r e => by cases e)
theorem room_none (k : Nat) : Fence.wide.room k := fun d h => by cases h
theorem roundDepth {m m' : Nat} {P : Program} {l : Nat} {f : FuncId} {tmps : Array Value} {assign body : Code} {w : World} {R : Ending → World → Prop}
    (h : RoundIn Fence.wide m P l f tmps assign body w R) : RoundIn Fence.wide m' P l f tmps assign body w R := ⟨h.1, fun c cs _ => h.2 c cs (room_none _)⟩
theorem yieldDepth {m : Nat} (m' : Nat) {P : Program} {l : Nat} {args : Array Value} {W : World} {R : Ending → World → Prop} (h : YieldAt Fence.wide m P l args W R) : YieldAt Fence.wide m' P l args W R := by
  obtain ⟨fn, tmps, assign, body, hy, hR⟩ := h
  exact ⟨fn, tmps, assign, body, hy, roundDepth hR⟩
end Go.Proofs.Ytjhgknagmiekeaa.V
set_option linter.unusedVariables false
set_option linter.unusedSimpArgs false
set_option linter.unusedSectionVars false
namespace Go.Proofs.Ytjhgknagmiekeaa.N
open Go.RowKit Go.Proofs.Ytjhgknagmiekeaa.K Go.Proofs.YtjhgknagmiekeaaW.PrintWords Go.Proofs.YtjhgknagmiekeaaW.PrintLast
open Go.Proofs.Ytjhgknagmiekeaa.T (Nd Lf Ent ents entss All valT findT IntVals Ok Oks mem_all all_rise Fine Tr)
open Go.Proofs.Ytjhgknagmiekeaa.V (valI ovr ovrs ownE ovr_eq)
abbrev Kv := List UInt8 × Int
def ey (e : Ent) : Kv := (e.1, valI e.2.val)
def ex (x : ByteArray × Int) : Kv := (T.L x.1, x.2)
theorem ex_inj {x y : ByteArray × Int} (h : ex x = ex y) : x = y := by
  unfold ex at h
  obtain ⟨h1, h2⟩ := Prod.mk.inj h
  exact Prod.ext (T.L_inj h1) h2
def Agree (root : Nd) (t : Rt) : Prop := (All root).map ey = (t.ks.zip t.vs).map ex
theorem mem_ey {root : Nd} (h : T.Good root) (hv : IntVals root) (q : List UInt8) (x : Int) : (q, x) ∈ (All root).map ey ↔ valT root q = some (.int .i64 x) := by
  rw [List.mem_map]
  unfold valT
  constructor
  · rintro ⟨⟨q', l⟩, hm, he⟩
    unfold ey at he
    obtain ⟨h1, h2⟩ := Prod.mk.inj he
    dsimp only at h1 h2
    subst h1
    have hf := (mem_all h q' l).1 hm
    obtain ⟨v, ev⟩ := hv _ _ hf
    rw [hf, Option.map_some, ev]
    rw [ev] at h2
    rw [← h2]
    rfl
  · intro he
    cases hf : findT root q with
    | none => rw [hf] at he; cases he
    | some l =>
      rw [hf, Option.map_some] at he
      refine ⟨(q, l), (mem_all h q l).2 hf, ?_⟩
      unfold ey
      dsimp only
      rw [Option.some.inj he]
      rfl
theorem zip_take_key {ks : List ByteArray} {vs : List Int} {n : Nat} {x : ByteArray × Int} (h : x ∈ (ks.zip vs).take n) : x.1 ∈ ks.take n := by
  have e : (ks.zip vs).take n = (ks.take n).zip (vs.take n) := List.take_zipWith
  rw [e] at h
  exact (List.of_mem_zip h).1
theorem zip_drop_key {ks : List ByteArray} {vs : List Int} {n : Nat} {x : ByteArray × Int} (h : x ∈ (ks.zip vs).drop n) : x.1 ∈ ks.drop n := by
  have e : (ks.zip vs).drop n = (ks.drop n).zip (vs.drop n) := List.drop_zipWith
  rw [e] at h
  exact (List.of_mem_zip h).1
theorem mem_put {ks : List ByteArray} {vs : List Int} {a : ByteArray} {v : Int} {n : Nat} {b : Bool} (hr : Rise ks) (hc : Cut ks a n n) (hb : b = true → n < ks.length ∧ gd ks n = a) (hb2 : b = true ↔ a ∈ ks) (hl : ks.length = vs.length) (x : ByteArray × Int) :
    x ∈ putAt (ks.zip vs) n b (a, v) ↔ x = (a, v) ∨ (x.1 ≠ a ∧ x ∈ ks.zip vs) := by
  unfold putAt
  rw [List.mem_append, List.mem_cons]
  constructor
  · rintro (h | h | h)
    · refine .inr ⟨fun e => ?_, List.mem_of_mem_take h⟩
      obtain ⟨j, h1, -, h2⟩ := mem_take_gd (zip_take_key h)
      have := hc.1 j h1
      rw [h2, e] at this
      exact T.blt_irrefl _ this
    · exact .inl h
    · refine .inr ⟨fun e => ?_, List.mem_of_mem_drop h⟩
      obtain ⟨j, h1, h3, h2⟩ := mem_drop_gd (zip_drop_key h)
      have := cut_after hr hc hb hb2 j h1 h3
      rw [h2, e] at this
      exact T.blt_irrefl _ this
  · rintro (h | ⟨h1, h2⟩)
    · exact .inr (.inl h)
    · rw [← List.take_append_drop n (ks.zip vs), List.mem_append] at h2
      rcases h2 with h2 | h2
      · exact .inl h2
      · cases b with
        | false => exact .inr (.inr (by simpa using h2))
        | true =>
          obtain ⟨g1, g2⟩ := hb rfl
          have hz : n < (ks.zip vs).length := by rw [List.length_zip]; omega
          rw [List.drop_eq_getElem_cons hz, List.mem_cons] at h2
          rcases h2 with h2 | h2
          · exfalso
            refine h1 ?_
            rw [h2, List.getElem_zip, ← g2, gd_get g1]
          · exact .inr (.inr (by simpa using h2))
theorem rise_zip {ks : List ByteArray} {vs : List Int} (h : Rise ks) (hl : ks.length = vs.length) : ((ks.zip vs).map ex).Pairwise (fun a b => a.1 < b.1) := by
  have e : ((ks.zip vs).map ex).map Prod.fst = ks.map T.L := by
    rw [List.map_map, show (Prod.fst ∘ ex) = T.L ∘ Prod.fst from rfl, ← List.map_map, List.map_fst_zip (by omega)]
  have h2 := h
  unfold Rise at h2
  rw [← e, List.pairwise_map] at h2
  exact h2
theorem agree_ins {root root' : Nd} {t : Rt} (hg : T.Good root) (hv : IntVals root) (hg' : T.Good root') (hv' : IntVals root') (ht : Rok t) (h : Agree root t) {a : ByteArray} {v : Int} {n : Nat} {b : Bool} {L P : List ByteArray} {ls M : List Int}
    (hn : n ≤ t.ks.length) (hc : Cut t.ks a n n) (hb : b = true → n < t.ks.length ∧ gd t.ks n = a) (hb2 : b = true ↔ a ∈ t.ks) (ho : Rok ⟨putAt t.ks n b a, putAt t.vs n b v, ls, P, M⟩)
    (hf : ∀ r, valT root' r = if r = T.L a then some (.int .i64 v) else valT root r) : Agree root' ⟨putAt t.ks n b a, putAt t.vs n b v, ls, P, M⟩ := by
  unfold Agree at h ⊢
  have h1 : ((All root').map ey).Pairwise (fun a b => a.1 < b.1) := by
    rw [List.pairwise_map]
    exact all_rise hg'
  have h2 := rise_zip ho.rise ho.v.symm
  refine T.sorted_ext (lt := fun a b : Kv => a.1 < b.1) (fun x => T.blt_irrefl _) (fun x y z => T.blt_trans) _ _ h1 h2 (fun x => ?_)
  obtain ⟨q, x⟩ := x
  rw [mem_ey hg' hv', hf]
  dsimp only
  rw [zip_putAt _ _ _ _ _ _ ht.v.symm hn]
  have hz : (q, x) ∈ (putAt (t.ks.zip t.vs) n b (a, v)).map ex ↔ (q = T.L a ∧ x = v) ∨ (q ≠ T.L a ∧ (q, x) ∈ (t.ks.zip t.vs).map ex) := by
    rw [List.mem_map]
    constructor
    · rintro ⟨y, hy, e⟩
      rcases (mem_put ht.rise hc hb hb2 ht.v.symm y).1 hy with rfl | ⟨h3, h4⟩
      · unfold ex at e
        obtain ⟨e1, e2⟩ := Prod.mk.inj e
        exact .inl ⟨e1.symm, e2.symm⟩
      · refine .inr ⟨fun h5 => h3 ?_, ?_⟩
        · unfold ex at e
          exact T.L_inj ((Prod.mk.inj e).1.trans h5)
        · rw [← e]
          exact List.mem_map_of_mem h4
    · rintro (⟨rfl, rfl⟩ | ⟨h3, h4⟩)
      · exact ⟨(a, x), (mem_put ht.rise hc hb hb2 ht.v.symm _).2 (.inl rfl), rfl⟩
      · obtain ⟨y, hy, e⟩ := List.mem_map.1 h4
        refine ⟨y, (mem_put ht.rise hc hb hb2 ht.v.symm y).2 (.inr ⟨fun h5 => h3 ?_, hy⟩), e⟩
        unfold ex at e
        rw [← (Prod.mk.inj e).1, h5]
  rw [hz, ← h, mem_ey hg hv]
  by_cases hq : q = T.L a
  · rw [if_pos hq]
    constructor
    · intro e
      have := Option.some.inj e
      exact .inl ⟨hq, by injection this with _ h9; exact h9.symm⟩
    · rintro (⟨-, rfl⟩ | ⟨h3, -⟩)
      · rfl
      · exact absurd hq h3
  · rw [if_neg hq]
    constructor
    · exact fun e => .inr ⟨hq, e⟩
    · rintro (⟨h3, -⟩ | ⟨-, h3⟩)
      · exact absurd h3 hq
      · exact h3
mutual
theorem ents_pre : ∀ (n : Nd) (p : List UInt8) (x : Ent), x ∈ ents p n → ∃ r, x.1 = p ++ T.L n.label ++ r
  | .mk b label leaf kids mark, p, x, h => by
    rw [ents, List.mem_append] at h
    rcases h with h | h
    · obtain ⟨l, -, rfl⟩ := List.mem_map.1 h
      exact ⟨[], by simp; rfl⟩
    · obtain ⟨r, hr⟩ := entss_pre kids _ x h
      exact ⟨r, hr⟩
theorem entss_pre : ∀ (ks : List Nd) (p : List UInt8) (x : Ent), x ∈ entss p ks → ∃ r, x.1 = p ++ r
  | [], p, x, h => by rw [entss] at h; cases h
  | k :: r, p, x, h => by
    rw [entss, List.mem_append] at h
    rcases h with h | h
    · obtain ⟨t, ht⟩ := ents_pre k p x h
      exact ⟨T.L k.label ++ t, by rw [ht, List.append_assoc]⟩
    · exact entss_pre r p x h
end
section
variable (sk kp : List UInt8 → Bool) (hsk : ∀ q r, sk q = true → kp (q ++ r) = false)
include hsk
mutual
theorem ovr_all : ∀ (n : Nd) (p : ByteArray) (p' : List UInt8), T.L p = p' ++ T.L n.label → (ovr (fun q => sk (T.L q)) (fun q => kp (T.L q)) p n).map ex = ((ents p' n).map ey).filter (fun x => kp x.1)
  | .mk b label leaf kids mark, p, p', h => by
    have h' : T.L p = p' ++ T.L label := h
    rw [ovr]
    by_cases hs : sk (T.L p) = true
    · rw [if_pos hs]
      symm
      rw [List.map_nil, List.filter_eq_nil_iff]
      intro x hx
      obtain ⟨e, he, rfl⟩ := List.mem_map.1 hx
      obtain ⟨r, hr⟩ := ents_pre _ _ _ he
      show ¬ kp e.1 = true
      rw [hr, show p' ++ T.L (Nd.mk b label leaf kids mark).label = T.L p from h'.symm, hsk _ _ hs]
      simp
    · rw [if_neg hs, ents, List.map_append, List.map_append, List.filter_append, ovrs_all kids p _ h']
      congr 1
      cases leaf with
      | none => rfl
      | some l =>
        rw [← h']
        unfold ownE
        by_cases hk : kp (T.L p) = true
        · simp [ey, ex, hk]
        · simp [ey, ex, hk]
theorem ovrs_all : ∀ (ks : List Nd) (p : ByteArray) (p' : List UInt8), T.L p = p' → (ovrs (fun q => sk (T.L q)) (fun q => kp (T.L q)) p ks).map ex = ((entss p' ks).map ey).filter (fun x => kp x.1)
  | [], p, p', h => by rw [ovrs, entss]; rfl
  | k :: r, p, p', h => by
    rw [ovrs, entss, List.map_append, List.map_append, List.filter_append, ovrs_all r p p' h, ovr_all k (p ++ k.label) p' (by rw [T.L_append, h])]
end
end
theorem ovr_eqs {root : Nd} {t : Rt} (hg : T.Good root) (h : Agree root t) (sk kp : List UInt8 → Bool) (hsk : ∀ q r, sk q = true → kp (q ++ r) = false) :
    ovr (fun q => sk (T.L q)) (fun q => kp (T.L q)) ⟨#[]⟩ root = (t.ks.zip t.vs).filter (fun x => kp (T.L x.1)) := by
  have e := ovr_all sk kp hsk root ⟨#[]⟩ [] (by
    have := hg.top
    have : T.L root.label = [] := List.eq_nil_of_length_eq_zero (by rw [T.L_len, this])
    rw [this]; rfl)
  rw [show ents [] root = All root from rfl, h, List.filter_map] at e
  refine (List.map_inj_right (fun x y => ex_inj)).1 (e.trans ?_)
  rfl
end Go.Proofs.Ytjhgknagmiekeaa.N
