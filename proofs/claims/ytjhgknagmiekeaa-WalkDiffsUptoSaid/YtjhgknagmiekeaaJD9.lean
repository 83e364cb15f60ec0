/- joined: N2 N3 TR20 TR21 TR22 TR23 TR24 TR25 TR28 V1 N4 K27t K27f K27 N5 -/
import Derived.Test.YtjhgknagmiekeaaJD6
import Derived.Test.YtjhgknagmiekeaaJD7
import Derived.Test.YtjhgknagmiekeaaJD8
import Derived.Laws.Concat
import Derived.Shelf.SlicesE.Delete
import Derived.Lib.OwnBridge
import Derived.Deep.RegionLaw
import Derived.Test.YtjhgknagmiekeaaJD5
import Derived.RangeFuncNested
import Derived.RangeFuncBound
import Derived.RangeFuncCalls
import Derived.RangeFuncLeaves
import Derived.Shelf.Abstract
import Derived.Shelf.RegionOpen
import Derived.WalkKit
import Derived.OwnWalkIn
import Derived.TacticsInMore
import Derived.LoopNIn
import Derived.LoopIn
set_option linter.unusedVariables false
set_option linter.unusedSimpArgs false
namespace Go.Proofs.Ytjhgknagmiekeaa.N
open Go.RowKit Go.Proofs.Ytjhgknagmiekeaa.K Go.Proofs.YtjhgknagmiekeaaW.PrintWords Go.Proofs.YtjhgknagmiekeaaW.PrintLast
abbrev Sml (l : List ByteArray) : Prop := ∀ k ∈ l, k.size < 4611686018427387904
theorem rdOf_gd (l : List ByteArray) (j : Nat) : rdOf ByteArray.empty l (j : Int) = gd l j := by
 simp only [rdOf, gd, Int.toNat_natCast]
 rfl
theorem gd_mem {l : List ByteArray} {j : Nat} (h : j < l.length) : gd l j ∈ l := by rw [gd_get h]; exact List.getElem_mem _
theorem wsub (n : Nat) (h : 0 < n) (hh : n < 4611686018427387904) : wrap64 ((n : Int) - 1) = ((n - 1 : Nat) : Int) := by unfold wrap64; omega
theorem wadd (n : Nat) (hh : n < 4611686018427387904) : wrap64 ((n : Int) + 1) = ((n + 1 : Nat) : Int) := by unfold wrap64; omega
theorem ev_uniq {α : Type} {g : Nat → Option α} {v y : α} {k : Nat} (hg : ∀ k, LeO (g k) (g (k + 1))) (h : Ev g v) (e : g k = some y) : y = v := by
 obtain ⟨k1, hk1⟩ := h
 have h9 := hk1 (max k k1) (Nat.le_max_right _ _)
 rw [at_rounds hg (Nat.le_max_left k k1) e] at h9
 exact Option.some.inj h9
theorem shift_ev (l : List ByteArray) (a : ByteArray) (n : Nat) (hn : n ≤ l.length) (hlen : l.length < 4611686018427387904) : ∀ (d i : Nat) (y : ByteArray), i - n = d → n ≤ i → i ≤ l.length →
  Ev (fun k => musterref03_with.l0 k (l.take i ++ y :: l.drop i) a (n : Int) (i : Int)) (l.take n ++ a :: l.drop n) := by
 intro d
 induction d with
 | zero =>
  intro i y hd h1 h2
  have e : i = n := by omega
  subst e
  refine Ev.step (f := fun k => some (l.take i ++ a :: l.drop i)) (fun k => ?_) (Ev.now _)
  simp only [musterref03_with.l0]
  have hl : (l.take i ++ y :: l.drop i).length = l.length + 1 := by simp; omega
  rw [if_neg (by omega), if_pos (by omega), if_pos (by rw [hl]; omega)]
  congr 1
  rw [Int.toNat_natCast, List.set_append_right _ _ (by rw [List.length_take]; omega)]
  rw [List.length_take, Nat.min_eq_left h2, Nat.sub_self, List.set_cons_zero]
 | succ d ih =>
  intro i y hd h1 h2
  obtain ⟨j, rfl⟩ : ∃ j, i = j + 1 := ⟨i - 1, by omega⟩
  have hl : (l.take (j + 1) ++ y :: l.drop (j + 1)).length = l.length + 1 := by simp; omega
  refine Ev.step (f := fun k => musterref03_with.l0 k (l.take j ++ l[j]'(by omega) :: l.drop j) a (n : Int) (j : Int)) (fun k => ?_) (ih j _ (by omega) (by omega) (by omega))
  have e := wsub (j + 1) (by omega) (by omega)
  have e2 : rdOf ByteArray.empty (l.take (j + 1) ++ y :: l.drop (j + 1)) ((j + 1 - 1 : Nat) : Int) = l[j]'(by omega) := by
   rw [rdOf_gd, gd_get (by rw [hl]; omega), List.getElem_append_left (by rw [List.length_take]; omega), List.getElem_take]
   rfl
  have e3 : (l.take (j + 1) ++ y :: l.drop (j + 1)).set (j + 1) (l[j]'(by omega)) = l.take j ++ l[j]'(by omega) :: l.drop j := by
   rw [List.set_append_right _ _ (by rw [List.length_take]; omega), List.length_take, Nat.min_eq_left h2, Nat.sub_self, List.set_cons_zero, List.take_add_one, List.getElem?_eq_getElem (show j < l.length by omega), List.append_assoc]
   congr 1
   rw [List.drop_eq_getElem_cons (show j < l.length by omega)]
   rfl
  simp only [musterref03_with.l0]
  rw [if_pos (by omega), e, if_pos (by omega), if_pos (by rw [hl]; omega), if_pos (by omega), if_pos (by rw [hl]; omega), e2, Int.toNat_natCast, e3]
  rfl
def putIn (l : List ByteArray) (n : Nat) (b : Bool) (a : ByteArray) : List ByteArray := if b = true then l else l.take n ++ a :: l.drop n
theorem putIn_len (l : List ByteArray) (n : Nat) (b : Bool) (a : ByteArray) (h : n ≤ l.length) : (putIn l n b a).length ≤ l.length + 1 := by
 unfold putIn
 split
 ·omega
 ·simp; omega
theorem mem_putIn {l : List ByteArray} {n : Nat} {b : Bool} {a : ByteArray} (h : n ≤ l.length) (hb : b = true → a ∈ l) (x : ByteArray) : x ∈ putIn l n b a ↔ x ∈ l ∨ x = a := by
 unfold putIn
 split
 ·rename_i e
  exact ⟨.inl, fun h => h.elim id (fun h => h ▸ hb e)⟩
 ·rw [List.mem_append, List.mem_cons]
  constructor
  ·rintro (h | h | h)
   ·exact .inl (List.mem_of_mem_take h)
   ·exact .inr h
   ·exact .inl (List.mem_of_mem_drop h)
  ·rintro (h | h)
   ·rw [← List.take_append_drop n l, List.mem_append] at h
    exact h.elim .inl (fun h => .inr (.inr h))
   ·exact .inr (.inl h)
theorem with_ex (l : List ByteArray) (a : ByteArray) (hlen : l.length < 8796093022208) (hs : Sml l) : ∃ (n : Nat) (b : Bool), n ≤ l.length ∧ Ev (fun k => musterref03_with.f k l a) (putIn l n b a) ∧ (b = true → a ∈ l) ∧ (Rise l → Cut l a n n ∧ (b = true ↔ a ∈ l)) := by
 obtain ⟨n, b, h1, h2, h3, h4⟩ := find_ex l a (by omega) hs
 refine ⟨n, b, h1, ?_, fun e => by have := h3 e; rw [← this.2]; exact gd_mem this.1, h4⟩
 refine Ev.congr (f := fun k => (musterref03_Find.f k l a).bind fun bt114 => if bt114.2 = true then some l else if l.length < 8796093022208 then ((some (l ++ [(⟨#[]⟩ : ByteArray)] : List ByteArray)).bind fun y116 => musterref03_with.l0 k y116 a bt114.1 (wrap64 ((y116.length : Int) - 1))) else none) (fun k => rfl) (Ev.bind h2 ?_)
 unfold putIn
 cases b with
 | true => exact Ev.now _
 | false =>
  have := shift_ev l a n h1 (by omega) (l.length - n) l.length ⟨#[]⟩ rfl h1 (Nat.le_refl _)
  rw [List.take_length, List.drop_length] at this
  refine Ev.congr (fun k => ?_) this
  simp only [if_neg (show ¬ false = true by simp), if_pos hlen, Option.bind_some]
  rw [List.length_append, List.length_singleton, show wrap64 (((l.length + 1 : Nat) : Int) - 1) = (l.length : Int) from by unfold wrap64; omega]
theorem common_ex (a b : ByteArray) (ha : a.size < 4611686018427387904) : ∃ m : Nat, m ≤ a.size ∧ m ≤ b.size ∧ Ev (fun k => musterref03_Common.f k a b) (a.extract 0 m) ∧ (∀ j, j < m → bt a j = bt b j) ∧ (m < a.size → m < b.size → bt a m ≠ bt b m) := by
 have key : ∀ d i : Nat, a.size - i = d → i ≤ a.size → i ≤ b.size → (∀ j : Nat, j < i → bt a j = bt b j) → ∃ m : Nat, m ≤ a.size ∧ m ≤ b.size ∧ Ev (fun k => musterref03_Common.l0 k a b (i : Int)) (a.extract 0 m) ∧ (∀ j : Nat, j < m → bt a j = bt b j) ∧ (m < a.size → m < b.size → bt a m ≠ bt b m) := by
  intro d
  induction d with
  | zero =>
   intro i hd h1 h2 h3
   refine ⟨i, h1, h2, ?_, h3, fun h => by omega⟩
   refine Ev.step (f := fun k => some (a.extract 0 i)) (fun k => ?_) (Ev.now _)
   simp only [musterref03_Common.l0]
   rw [if_neg (by omega), if_pos (by omega), if_pos (by omega), Int.toNat_natCast]
  | succ d ih =>
   intro i hd h1 h2 h3
   by_cases hb : i < b.size
   ·by_cases he : bt a i = bt b i
    ·obtain ⟨m, q1, q2, q3, q4, q5⟩ := ih (i + 1) (by omega) (by omega) (by omega) (fun j hj => by
      rcases Nat.lt_or_ge j i with h | h
      ·exact h3 j h
      ·have : j = i := by omega
       rw [this]; exact he)
     refine ⟨m, q1, q2, Ev.step (fun k => ?_) q3, q4, q5⟩
     simp only [musterref03_Common.l0]
     rw [if_pos (by omega), if_pos (by omega), if_pos (by omega), if_pos he, wadd i (by omega)]
    ·refine ⟨i, h1, h2, ?_, h3, fun _ _ => he⟩
     refine Ev.step (f := fun k => some (a.extract 0 i)) (fun k => ?_) (Ev.now _)
     simp only [musterref03_Common.l0]
     rw [if_pos (by omega), if_pos (by omega), if_pos (by omega), if_neg he, if_pos (by omega), Int.toNat_natCast]
   ·refine ⟨i, h1, h2, ?_, h3, fun _ h => absurd h hb⟩
    refine Ev.step (f := fun k => some (a.extract 0 i)) (fun k => ?_) (Ev.now _)
    simp only [musterref03_Common.l0]
    rw [if_pos (by omega), if_neg (by omega), if_pos (by omega), if_pos (by omega), Int.toNat_natCast]
 exact key a.size 0 (by omega) (by omega) (by omega) (fun j h => by omega)
theorem ext_size (a : ByteArray) (m : Nat) (h : m ≤ a.size) : (a.extract 0 m).size = m := by rw [ByteArray.size_extract]; omega
end Go.Proofs.Ytjhgknagmiekeaa.N
set_option linter.unusedVariables false
set_option linter.unusedSimpArgs false
namespace Go.Proofs.Ytjhgknagmiekeaa.N
open Go.RowKit Go.Proofs.Ytjhgknagmiekeaa.K Go.Proofs.YtjhgknagmiekeaaW.PrintWords Go.Proofs.YtjhgknagmiekeaaW.PrintLast
structure Rt where
 ks : List ByteArray
 vs : List Int
 ls : List Int
 ps : List ByteArray
 ms : List Int
structure Rok (t : Rt) : Prop where
 v : t.vs.length = t.ks.length
 l : t.ls.length = t.ks.length
 m : t.ps.length = t.ms.length
 p : t.ps.length ≤ 1 + 2 * t.ks.length
 sk : Sml t.ks
 sp : Sml t.ps
 rise : Rise t.ks
def putAt {α : Type} (l : List α) (n : Nat) (b : Bool) (a : α) : List α := l.take n ++ a :: l.drop (if b = true then n + 1 else n)
theorem putAt_len {α : Type} (l : List α) (n : Nat) (b : Bool) (a : α) (h : n ≤ l.length) (hb : b = true → n < l.length) : (putAt l n b a).length = if b = true then l.length else l.length + 1 := by
 unfold putAt
 cases b with
 | true => have := hb rfl; simp; omega
 | false => simp; omega
theorem mem_putAt {α : Type} {l : List α} {n : Nat} {b : Bool} {a x : α} (h : x ∈ putAt l n b a) : x ∈ l ∨ x = a := by
 unfold putAt at h
 rw [List.mem_append, List.mem_cons] at h
 rcases h with h | h | h
 ·exact .inl (List.mem_of_mem_take h)
 ·exact .inr h
 ·exact .inl (List.mem_of_mem_drop h)
theorem zip_putAt {α β : Type} (l : List α) (r : List β) (n : Nat) (b : Bool) (a : α) (c : β) (h : l.length = r.length) (hn : n ≤ l.length) : (putAt l n b a).zip (putAt r n b c) = putAt (l.zip r) n b (a, c) := by
 unfold putAt
 rw [List.zip_append (by rw [List.length_take, List.length_take]; omega), List.zip_cons_cons]
 congr 1
 ·exact List.take_zipWith.symm
 ·rw [List.zip, List.drop_zipWith]
theorem cut_after {keys : List ByteArray} {a : ByteArray} {n : Nat} {b : Bool} (hr : Rise keys) (hc : Cut keys a n n) (hb : b = true → n < keys.length ∧ gd keys n = a) (hb2 : b = true ↔ a ∈ keys) (j : Nat) (h1 : (if b = true then n + 1 else n) ≤ j) (h2 : j < keys.length) : T.L a < T.L (gd keys j) := by
 cases b with
 | true =>
  obtain ⟨h3, h4⟩ := hb rfl
  rw [← h4]
  have h1' : n + 1 ≤ j := by simpa using h1
  exact hr.lt (by omega) h2
 | false =>
  have h1' : n ≤ j := by simpa using h1
  rcases T.blt_total (T.L a) (T.L (gd keys j)) with h | h | h
  ·exact h
  ·exfalso
   have := T.L_inj h
   have h5 : a ∈ keys := by rw [this]; exact gd_mem h2
   exact absurd (hb2.2 h5) (by simp)
  ·exact absurd h (hc.2 j h1' h2)
theorem mem_take_gd {l : List ByteArray} {n : Nat} {x : ByteArray} (h : x ∈ l.take n) : ∃ j, j < n ∧ j < l.length ∧ gd l j = x := by
 obtain ⟨j, hj, e⟩ := List.getElem_of_mem h
 rw [List.length_take] at hj
 refine ⟨j, by omega, by omega, ?_⟩
 rw [gd_get (by omega), ← e, List.getElem_take]
theorem mem_drop_gd {l : List ByteArray} {n : Nat} {x : ByteArray} (h : x ∈ l.drop n) : ∃ j, n ≤ j ∧ j < l.length ∧ gd l j = x := by
 obtain ⟨j, hj, e⟩ := List.getElem_of_mem h
 rw [List.length_drop] at hj
 refine ⟨n + j, by omega, by omega, ?_⟩
 rw [gd_get (by omega), ← e, List.getElem_drop]
theorem rise_put {keys : List ByteArray} {a : ByteArray} {n : Nat} {b : Bool} (hr : Rise keys) (hc : Cut keys a n n) (hb : b = true → n < keys.length ∧ gd keys n = a) (hb2 : b = true ↔ a ∈ keys) : Rise (putAt keys n b a) := by
 unfold Rise putAt
 have h1 : ∀ x ∈ keys.take n, T.L x < T.L a := fun x hx => by
  obtain ⟨j, h1, -, rfl⟩ := mem_take_gd hx
  exact hc.1 j h1
 have h2 : ∀ x ∈ keys.drop (if b = true then n + 1 else n), T.L a < T.L x := fun x hx => by
  obtain ⟨j, h1, h3, rfl⟩ := mem_drop_gd hx
  exact cut_after hr hc hb hb2 j h1 h3
 unfold Rise at hr
 rw [List.pairwise_map] at hr ⊢
 rw [List.pairwise_append, List.pairwise_cons]
 refine ⟨hr.sublist (List.take_sublist _ _), ⟨h2, hr.sublist (List.drop_sublist _ _)⟩, fun x hx y hy => ?_⟩
 rw [List.mem_cons] at hy
 rcases hy with rfl | hy
 ·exact h1 x hx
 ·exact T.blt_trans (h1 x hx) (h2 y hy)
end Go.Proofs.Ytjhgknagmiekeaa.N
set_option linter.unusedVariables false
set_option linter.unusedSimpArgs false
namespace Go.Proofs.Ytjhgknagmiekeaa.T
open Go.RowKit Go.Lib Go.Proofs Go.Proofs.YtjhgknagmiekeaaW.PrintWords
theorem NdAt.marked {w : World} {n : Nd} (h : NdAt w n) : ∃ mb, n.mark = ptr mb := by
  cases n; unfold NdAt at h; exact h.2.2.2
set_option maxHeartbeats 4000000 in
set_option maxRecDepth 100000 in
theorem shaped_self (w : World) (n : Nd) (hn : NdAt w n) (ho : Ok n) (h : n.leaf.isSome = true ∨ 1 < n.kids.length) :
    Calls Try.prog 126 #[ptr n.b] w fun e w' => e = .returned (ptr n.b) ∧ w' = w := by
  obtain ⟨kv, hb, hr, hl, hk⟩ := hn.parts
  have hfew := ho.few
  cases e : n.leaf with
  | some l =>
    have c1 : w.cell? ⟨n.b, 1, none⟩ = some (.pointer (some ⟨l.b, 0, none⟩)) := by rw [blk_cell hb, e]; rfl
    clear hb hr hl hk hn ho h e
    unfold ptr
    go_enter Try.func126, Try.ntmps126
    go_wp2_with fail
    go_ret
    exact ⟨rfl, rfl⟩
  | none =>
    have hlen : 1 < n.kids.length := h.resolve_left (by rw [e]; simp)
    have c1 : w.cell? ⟨n.b, 1, none⟩ = some (.pointer none) := by rw [blk_cell hb, e]; rfl
    obtain ⟨A, c, rfl, _⟩ := hr.open
    have elen : (ptrs n.kids).length = n.kids.length := by simp [ptrs]
    rw [elen] at hb
    have c2 : w.cell? ⟨n.b, 2, none⟩ = some (.slice A n.kids.length c) := by rw [blk_cell hb]; rfl
    obtain ⟨len, hlen'⟩ : ∃ len, n.kids.length = len := ⟨_, rfl⟩
    rw [hlen'] at c2 hlen
    have hI : (1 : Int) < (len : Int) := by omega
    clear hb hr hl hk hn ho h e elen hfew hlen'
    unfold ptr
    go_enter Try.func126, Try.ntmps126
    go_wp2_with fail
    go_ret
    exact ⟨rfl, rfl⟩
set_option maxHeartbeats 4000000 in
set_option maxRecDepth 100000 in
theorem shaped_gone (w : World) (n : Nd) (hn : NdAt w n) (h1 : n.leaf = none) (h2 : n.kids = []) :
    Calls Try.prog 126 #[ptr n.b] w fun e w' => e = .returned (.pointer none) ∧ w' = w := by
  obtain ⟨kv, hb, hr, hl, hk⟩ := hn.parts
  have c1 : w.cell? ⟨n.b, 1, none⟩ = some (.pointer none) := by rw [blk_cell hb, h1]; rfl
  obtain ⟨A, c, rfl, _⟩ := hr.open
  have elen : (ptrs n.kids).length = 0 := by simp [ptrs, h2]
  rw [elen] at hb
  have c2 : w.cell? ⟨n.b, 2, none⟩ = some (.slice A 0 c) := by rw [blk_cell hb]; rfl
  clear hb hr hl hk hn h1 h2 elen
  unfold ptr
  go_enter Try.func126, Try.ntmps126
  go_wp2_with fail
  go_ret
  exact ⟨rfl, rfl⟩
set_option maxHeartbeats 4000000 in
set_option maxRecDepth 100000 in
theorem shaped_one (wB w : World) (hkB : Kept wB w) (n k : Nd) (hnB : NdAt wB n) (h1 : n.leaf = none) (h2 : n.kids = [k]) (hs : n.label.size + k.label.size < 4000000000000) :
    Calls Try.prog 126 #[ptr n.b] w fun e w' => e = .returned (ptr w.heap.size) ∧ (∀ W, Kept wB W → (∀ x, w.heap.size ≤ x → x < w'.heap.size → W.heap[x]? = w'.heap[x]?) → NdAt W (joinN n k w.heap.size)) ∧ w'.heap.size = w.heap.size + 1 ∧ Below w.heap.size w w' := by
  obtain ⟨kv, hb0, hr0, hl, hk⟩ := hnB.parts
  have hb := hkB.at hb0
  have hr := hr0.keep hkB
  have c0 : w.cell? ⟨n.b, 0, none⟩ = some (.string n.label) := by rw [blk_cell hb]; rfl
  have c1 : w.cell? ⟨n.b, 1, none⟩ = some (.pointer none) := by rw [blk_cell hb, h1]; rfl
  obtain ⟨A, c, rfl, hrc⟩ := hr.open
  have elen : (ptrs n.kids).length = 1 := by simp [ptrs, h2]
  obtain ⟨ad, rfl, hca⟩ := hrc 0 (by omega)
  have ep : (ptrs n.kids)[0] = ptr k.b := by simp [ptrs, h2]
  rw [ep] at hca
  rw [elen] at hb
  have c2 : w.cell? ⟨n.b, 2, none⟩ = some (.slice (some ad) 1 c) := by rw [blk_cell hb]; rfl
  have hkn : NdAt wB k := by have := hk.get 0 (by rw [h2]; simp); simpa [h2] using this
  obtain ⟨kv2, hb2', hr2, hl2, hk2⟩ := hkn.parts
  have hb2 := hkB.at hb2'
  have d0 : w.cell? ⟨k.b, 0, none⟩ = some (.string k.label) := by rw [blk_cell hb2]; rfl
  obtain ⟨lp, elp⟩ := leafPtr_form k.leaf
  have d1 : w.cell? ⟨k.b, 1, none⟩ = some (.pointer lp) := by rw [blk_cell hb2, elp]; rfl
  obtain ⟨mb, emb⟩ := hkn.marked
  have d3 : w.cell? ⟨k.b, 3, none⟩ = some (.pointer (some ⟨mb, 0, none⟩)) := by rw [blk_cell hb2, emb]; rfl
  have d2 : w.cell? ⟨k.b, 2, none⟩ = some kv2 := by rw [blk_cell hb2]; rfl
  have ca0 : w.cell? ad = some (.pointer (some ⟨k.b, 0, none⟩)) := hca
  have H := Aside0.mk (And.intro elp (And.intro emb (And.intro hr2 (And.intro hl2 hk2))))
  have HS := Aside0.mk (And.intro hs hkB)
  obtain ⟨A2, cc2, rfl, _⟩ := hr2.open
  have hz1 : n.label.size + k.label.size ≤ 9223372036854775807 := by omega
  have hadd := fun w1 : World => run_string_add_sum (P := Try.prog) w1 n.label k.label hz1
  clear hz1
  clear hb hr hl hk hnB h1 h2 elen hrc ep hca hkn hb2 hr2 hl2 hk2 elp emb hs hb0 hr0 hb2' hkB
  unfold ptr
  go_enter Try.func126, Try.ntmps126
  go_wp2_with fail
  go_region_held3 (fun w' => w'.cell? ⟨n.b, 0, none⟩ = some (.string n.label) ∧ w'.cell? ⟨k.b, 0, none⟩ = some (.string k.label) ∧ w'.cell? ⟨k.b, 1, none⟩ = some (.pointer lp) ∧ w'.cell? ⟨k.b, 2, none⟩ = some (.slice A2 (ptrs k.kids).length cc2) ∧ w'.cell? ⟨k.b, 3, none⟩ = some (.pointer (some ⟨mb, 0, none⟩)))
    (first | exact ⟨c0, d0, d1, d2, d3⟩ | exact ⟨cellA c0, cellA d0, cellA d1, cellA d2, cellA d3⟩)
    (fail)
  go_wp2_with fail
  go_ret
  obtain ⟨elp, emb, hr2, hl2, hk2⟩ := H.out
  have B := (Below.refl w.heap.size w).alloc (Nat.le_refl _) (.cells #[.string (n.label ++ k.label), .pointer lp, .slice A2 (ptrs k.kids).length cc2, .pointer (some ⟨mb, 0, none⟩)] 117)
  have hsz : (w.alloc (.cells #[.string (n.label ++ k.label), .pointer lp, .slice A2 (ptrs k.kids).length cc2, .pointer (some ⟨mb, 0, none⟩)] 117)).drew.heap.size = w.heap.size + 1 := by
    show (w.alloc _).heap.size = _
    rw [World.size_alloc]
  refine ⟨rfl, fun W hW hA => ?_, hsz, ⟨B.os, B.tape, B.output, B.size, B.block⟩⟩
  refine NdAt.mk (kv := .slice A2 (ptrs k.kids).length cc2) ?_ (hr2.keep hW) (hl2.keep hW) (NdsAt.keep hW _ hk2) ⟨mb, emb⟩
  rw [elp, emb, hA w.heap.size (Nat.le_refl _) (by omega)]
  exact heap_alloc_new w _
theorem shaped_any (n : Nd) (c : Nat) : (∃ k, n.kids = [k] ∧ shapedN n c = some (joinN n k c)) ∨ ∀ x, shapedN n x = shapedN n c := by
  rcases shaped_cases n c with ⟨e, h⟩ | ⟨hl, hk, e⟩ | ⟨k, hl, hk, e⟩
  · refine .inr fun x => ?_
    rw [e]; unfold shapedN; rw [if_pos h]
  · refine .inr fun x => ?_
    rw [e]; unfold shapedN; rw [hl, hk]; rfl
  · exact .inl ⟨k, hk, e⟩
theorem shapedC (wB w : World) (hkB : Kept wB w) (n : Nd) (hnB : NdAt wB n) (ho : Ok n) (hf : Fits n 3999999999999) :
    Calls Try.prog 126 #[ptr n.b] w fun e w' => e = .returned (optPtr (shapedN n w.heap.size)) ∧ (∀ W, Kept wB W → (∀ x, w.heap.size ≤ x → x < w'.heap.size → W.heap[x]? = w'.heap[x]?) → ∀ s, shapedN n w.heap.size = some s → NdAt W s) ∧
      ((∃ k, n.kids = [k] ∧ shapedN n w.heap.size = some (joinN n k w.heap.size)) → w.heap.size < w'.heap.size) ∧ Below w.heap.size w w' := by
  have hn := NdAt.keep hkB n hnB
  rcases shaped_cases n w.heap.size with ⟨e, h⟩ | ⟨hl, hk, e⟩ | ⟨k, hl, hk, e⟩
  · rw [e]
    refine (shaped_self w n hn ho h).mono ?_
    rintro e w' ⟨rfl, rfl⟩
    refine ⟨rfl, fun W hW _ s e => (by cases e; exact NdAt.keep hW n hnB), ?_, Below.refl _ _⟩
    rintro ⟨k, hk, e⟩
    obtain ⟨kv, hb, _⟩ := hn.parts
    have hlt := (Array.getElem?_eq_some_iff.1 hb).1
    have := congrArg (Option.map Nd.b) e
    simp [joinN, Nd.b] at this
    cases n with
    | mk b _ _ _ _ => simp [Nd.b] at this hlt; omega
  · rw [e]
    refine (shaped_gone w n hn hl hk).mono ?_
    rintro e w' ⟨rfl, rfl⟩
    exact ⟨rfl, fun W _ _ s e => (by cases e), fun ⟨k, _, e⟩ => (by cases e), Below.refl _ _⟩
  · rw [e]
    have h2 := hf.parts
    have h3 := (h2.2.mem k (by rw [hk]; simp)).parts
    refine (shaped_one wB w hkB n k hnB hl hk (by omega)).mono ?_
    rintro e w' ⟨rfl, h4, h5, h6⟩
    exact ⟨rfl, fun W hW hA s e => (by cases e; exact h4 W hW hA), fun _ => by omega, h6⟩
end Go.Proofs.Ytjhgknagmiekeaa.T
set_option linter.unusedVariables false
set_option linter.unusedSimpArgs false
namespace Go.Proofs.Ytjhgknagmiekeaa.T
open Go.Shelf
def del_ren : Go.Shelf.Ren := ⟨fun | 45 => 127 | n => n, fun | 22 => 115 | 23 => 58 | n => n, fun | n => n⟩
theorem delLays : Go.Proofs.SlLaysE.n45 Try.prog del_ren := {
  mixed := by kernel_rfl
  f45 := ⟨Try.f127.name, by decide, Try.func127.trans (congrArg some (by kernel_rfl))⟩
  t0 := Try.underlying0
  a0 := Try.isAgg0
  z0 := Try.sizeOf0
  v0 := Try.zeroValue0
  t3 := Try.underlying3
  a3 := Try.isAgg3
  z3 := Try.sizeOf3
  v3 := Try.zeroValue3
  t4 := Try.underlying4
  a4 := Try.isAgg4
  z4 := Try.sizeOf4
  v4 := Try.zeroValue4
  t22 := Try.underlying115
  a22 := Try.isAgg115
  z22 := Try.sizeOf115
  v22 := Try.zeroValue115
  a23 := Try.isAgg58
  z23 := Try.sizeOf58 }
open Go.RowKit Go.Lib Go.Proofs Go.Proofs.YtjhgknagmiekeaaW.PrintWords
def spot (k : Nd) : Option Addr := some ⟨k.b, 0, none⟩
theorem ptrs_spot (ks : List Nd) : ptrs ks = (ks.map spot).map Value.pointer := by simp [ptrs, spot, ptr]
theorem delRow (w : World) (base g n cap i : Nat) (ks : List Nd) (hown : w.ownsRow base 58 1 (.slice (some ⟨g, 0, none⟩) n cap) n (ptrs ks)) (hi : i < n) :
    Calls Try.prog 127 #[.slice (some ⟨g, 0, none⟩) n cap, .int .i64 i, .int .i64 ((i : Int) + 1)] w fun e w' => e = .returned (.slice (some ⟨g, 0, none⟩) (n - 1) cap) ∧ w'.ownsRow base 58 1 (.slice (some ⟨g, 0, none⟩) (n - 1) cap) (n - 1) (ptrs (ks.eraseIdx i)) ∧ w.grownBy w' (some g) ∧ base ≤ g := by
  have hkl : ks.length = n := by have := hown.1; simpa [ptrs] using this
  rw [ptrs_spot] at hown
  obtain ⟨g', cap', e1, hb, hlt, hnc, hcm, hzl, hH⟩ := Go.Lib.holds_of_ownsRow (enc := Value.pointer) hown (by simp)
  injection e1 with e1 _ e3
  injection e1 with e1
  injection e1 with e1
  subst e1; subst e3
  obtain ⟨i0, hi0, h0, h1, h2⟩ := info_parts infoP
  have hsz : (ks.map spot).toArray.size = n := by simp [hkl]
  have q := AnyE.slices_Delete delLays Value.pointer (fun _ => rfl) none (show ∀ w, (zeroValue 58).run Try.prog w = .ok (.pointer none) w from Try.zeroValue58) i0 hi0 h1 g 0 cap i (i + 1) (ks.map spot).toArray w hH (by rw [hsz]; exact hnc) (by unfold maxLen at hcm; exact hcm) (by omega) (by rw [hsz]; omega)
  rw [hsz, show i + 1 - i = 1 by omega] at q
  refine Calls.mono (show Calls Try.prog 127 #[.slice (some ⟨g, 0, none⟩) n cap, .int .i64 i, .int .i64 ((i : Int) + 1)] w _ from q) ?_
  rintro e w' ⟨rfl, m, rfl⟩
  have hl2 : ((ks.map spot).take i ++ (ks.map spot).drop (i + 1) ++ List.replicate 1 (none : Option Addr)).length = n := by
    simp only [List.length_append, List.length_take, List.length_drop, List.length_map, List.length_replicate]
    omega
  have ho := Go.Lib.ownsRow_putRow (q := m) (k := n - 1) hown hl2 (by omega)
  refine ⟨rfl, ?_, ⟨rfl, rfl, rfl, ?_, fun k hk hn => ?_⟩, hb⟩
  · have e2 : (((ks.map spot).take i ++ (ks.map spot).drop (i + 1) ++ List.replicate 1 (none : Option Addr)).take (n - 1)).map Value.pointer = ptrs (ks.eraseIdx i) := by
      rw [List.take_left' (by simp only [List.length_append, List.length_take, List.length_drop, List.length_map]; omega), ptrs_spot, List.eraseIdx_eq_take_drop_succ]
      simp
    rw [← e2]
    exact ho
  · simp [Go.Sort.putRow, Go.Sort.mapBlock, Go.Sort.ahead]
  · have : k ≠ g := fun e => hn (by rw [e])
    simp [Go.Sort.putRow, Go.Sort.mapBlock, Go.Sort.ahead, Array.getElem?_modify, show g ≠ k by omega]
end Go.Proofs.Ytjhgknagmiekeaa.T
set_option linter.unusedVariables false
set_option linter.unusedSimpArgs false
namespace Go.Proofs.Ytjhgknagmiekeaa.T
open Go.RowKit Go.Lib Go.Proofs Go.Proofs.YtjhgknagmiekeaaW.PrintWords
theorem find_rest0 {n : Nd} {rest : ByteArray} (h : rest.size = 0) : findT n (L rest) = n.leaf := by
 have e : L rest = [] := List.length_eq_zero_iff.1 (by rw [L_len]; omega)
 rw [e, findT_nil]
theorem down_cases {n : Nd} (ho : Ok n) {rest : ByteArray} (h0 : rest.size ≠ 0) :
  (downN n rest = none ∧ findT n (L rest) = none) ∨ ∃ k, downN n rest = some k ∧ k ∈ n.kids ∧ 0 < k.label.size ∧ k.label.size ≤ rest.size ∧ kidN n rest = some k ∧ findT n (L rest) = findT k (L (rest.extract k.label.size rest.size)) := by
 have hne : L rest ≠ [] := fun e => h0 (by rw [← L_len, e]; rfl)
 have hq := kidN_eq n ho rest
 have hdn := downN_eq n ho rest h0
 rw [findT_eq _ _ hne]
 cases e : kidT n.kids (hd (L rest)) with
 | none => rw [e] at hdn; exact .inl ⟨hdn, rfl⟩
 | some k =>
  rw [e] at hdn hq
  simp only [Option.bind_some] at hdn ⊢
  have hkm : k ∈ n.kids := (kidT_some e).1
  have hpos := ho.parts.2.1 k hkm
  unfold below
  by_cases hp : L k.label <+: L rest
  ·rw [if_pos hp] at hdn
   rw [if_pos ⟨hpos, hp⟩]
   have hle := hp.length_le
   rw [L_len, L_len] at hle
   exact .inr ⟨k, hdn, hkm, hpos, hle, hq, by rw [L_tail]⟩
  ·rw [if_neg hp] at hdn
   rw [if_neg (fun h => hp h.2)]
   exact .inl ⟨hdn, rfl⟩
set_option maxHeartbeats 4000000 in
set_option maxRecDepth 100000 in
theorem remove_none : ∀ (N : Nat) (rest : ByteArray), rest.size ≤ N → rest.size < 4000000000000 → ∀ (n : Nd) (w : World), NdAt w n → Ok n → findT n (L rest) = none →
  Calls Try.prog 90 #[ptr n.b, .string rest] w fun e w' => e = .returned (.tuple #[ptr n.b, .pointer none]) ∧ w' = w := by
 have empty : ∀ (rest : ByteArray) (n : Nd) (w : World), NdAt w n → rest.size = 0 → findT n (L rest) = none → Calls Try.prog 90 #[ptr n.b, .string rest] w fun e w' => e = .returned (.tuple #[ptr n.b, .pointer none]) ∧ w' = w := by
  intro rest n w hn h0 hf
  rw [find_rest0 h0] at hf
  obtain ⟨kv, hb, hr, hl, hk⟩ := hn.parts
  have c1 : w.cell? ⟨n.b, 1, none⟩ = some (.pointer none) := by rw [blk_cell hb, hf]; rfl
  have e0 := empty_of rest h0
  subst e0
  clear hn hb hr hl hk hf h0
  unfold ptr
  go_enter Try.func90, Try.ntmps90
  go_wp2_with fail
  go_ret2
  exact ⟨rfl, rfl⟩
 intro N
 induction N with
 | zero => intro rest hN hbg n w hn ho hf; exact empty rest n w hn (by omega) hf
 | succ N ih =>
  intro rest hN hbg n w hn ho hf
  by_cases h0 : rest.size = 0
  ·exact empty rest n w hn h0 hf
  ·have hne := full_of rest (by omega)
   have q1 := Aside0.mk (downC w n hn ho rest)
   rcases down_cases ho h0 with ⟨hd, _⟩ | ⟨k, hd, hkm, hpos, hle, _, hfk⟩
   ·rw [hd] at q1
    clear hn ho hf hd ih empty
    unfold optPtr at q1
    unfold ptr at q1 ⊢
    go_enter Try.func90, Try.ntmps90
    go_wp2_with (go_at_call 121; refine q1.out.mono ?_; rintro e w1 ⟨rfl, rfl⟩)
    go_ret2
    exact ⟨rfl, rfl⟩
   ·rw [hd] at q1
    rw [hfk] at hf
    obtain ⟨ii, hii, eii⟩ := List.getElem_of_mem hkm
    have hkn : NdAt w k := by rw [← eii]; exact hn.parts.choose_spec.2.2.2.get ii hii
    obtain ⟨kv2, hb2, _⟩ := hkn.parts
    have c0 : w.cell? ⟨k.b, 0, none⟩ = some (.string k.label) := by rw [blk_cell hb2]; rfl
    have q2 := Aside0.mk (ih (rest.extract k.label.size rest.size) (by simp only [ByteArray.size_extract]; omega) (by simp only [ByteArray.size_extract]; omega) k w hkn (ho.parts.2.2.get k hkm) hf)
    have hleI : (k.label.size : Int) ≤ (rest.size : Int) := by omega
    clear hn ho hf hd ih empty hkm hii eii hkn hb2 hfk
    unfold optPtr at q1
    unfold ptr at q1 q2 ⊢
    go_enter Try.func90, Try.ntmps90
    go_wp2_with (go_at_call 121; refine q1.out.mono ?_; rintro e w1 ⟨rfl, rfl⟩)
    go_wp2_with (go_at_call 90; refine q2.out.mono ?_; rintro e w1 ⟨rfl, rfl⟩)
    go_ret2
    exact ⟨rfl, rfl⟩
def Removed (w : World) (n : Nd) (rest : ByteArray) (l : Lf) (e : Ending) (w' : World) : Prop := ∃ m ns, e = .returned (.tuple #[ptr m.b, ptr l.b]) ∧ delN n rest ns = some (m, l) ∧ NdAt w' m ∧ SupOk w.heap.size w' ns ∧ Below w.heap.size w w'
set_option maxHeartbeats 4000000 in
set_option maxRecDepth 100000 in
theorem remove_here (n : Nd) (rest : ByteArray) (l : Lf) (w : World) (hn : NdAt w n) (ho : Ok n) (h0 : rest.size = 0) (hf : n.leaf = some l) :
  Calls Try.prog 90 #[ptr n.b, .string rest] w (Removed w n rest l) := by
 have q1 := Aside0.mk (fresh w n hn ho.few)
 obtain ⟨kv0, hb0, _, hlf, hks⟩ := hn.parts
 have c1 : w.cell? ⟨n.b, 1, none⟩ = some (.pointer (some ⟨l.b, 0, none⟩)) := by rw [blk_cell hb0, hf]; rfl
 have hnb : n.b < w.heap.size := (Array.getElem?_eq_some_iff.1 hb0).1
 have ed : ∀ ns, delN n rest ns = some (.mk (ns 0).1 n.label none n.kids (ns 0).2, l) := fun ns => by rw [delN, dif_pos h0, hf]; rfl
 have HN := Aside0.mk (And.intro hks (And.intro hnb ed))
 have e0 := empty_of rest h0
 subst e0
 clear hn ho h0 hf hb0 hlf hks hnb ed
 unfold ptr
 go_enter Try.func90, Try.ntmps90
 go_wp2_with (go_at_call 124; refine q1.out.mono ?_)
 rintro e w1 ⟨b, kv, m, rfl, hf⟩
 have HF := Aside0.mk hf
 have c1' := (Kept.of hf.kept).cell c1
 have k1 : w1.cell? ⟨b, 1, none⟩ = some (leafPtr n.leaf) := by rw [blk_cell hf.blk]; rfl
 obtain ⟨lp, elp⟩ := leafPtr_form n.leaf
 rw [elp] at k1
 have f1 : w1.frozen? ⟨b, 1, none⟩ = false := blk_frozen hf.blk 1
 have hbn : ¬ n.b = b := by have := hf.new; have := HN.out.2.1; omega
 have d1 := set_cell_ne (i := 1) (v := .pointer none) c1' hbn
 clear hf q1 elp
 unfold ptr
 go_wp2_with fail
 go_region
 go_wp2_with fail
 go_ret2
 have hf := HF.out
 obtain ⟨hks, hnb, ed⟩ := HN.out
 have KB : Below w.heap.size w ((w1.setCell ⟨b, 1, none⟩ (.pointer none)).drew) := by
  have h := kept_set hf.kept b hf.new 1 (.pointer none)
  exact ⟨h.os, h.tape, h.output, h.size, h.block⟩
 have hKK := Kept.of KB
 obtain ⟨c, hm, hc1, hc2, hc3⟩ := hf.mark
 have hcb : ∀ o t f x, w1.heap[x]? = some o → w1.heap[b]? = some (.cells t 117 f) → (∀ t f, o ≠ .cells t 117 f) → x ≠ b := fun o t f x h1 h2 h3 e => by
  rw [e, h2] at h1
  exact h3 _ _ (Option.some.inj h1).symm
 refine ⟨_, fun _ => (b, m), rfl, ed _, ?_, ⟨fun _ => ⟨hf.new, ?_⟩, fun _ => ⟨c, hm, hc1, ?_, ?_⟩⟩, KB⟩
 ·refine NdAt.mk (kv := kv) ?_ ?_ (fun l e => by cases e) (NdsAt.keep hKK _ hks) ⟨_, hm⟩
  ·exact heap_setCell w1 (g := b) (o := 1) (.pointer none) hf.blk
  ·exact row_of_owns (owns_set hf.row hf.off 1 (.pointer none))
 ·have := (Array.getElem?_eq_some_iff.1 hf.blk).1
  simpa [World.setCell] using this
 ·have h := (Below.heap_setCell w1 ⟨b, 1, none⟩ (.pointer none) c (hcb _ _ _ c hc2 hf.blk (fun t f e => by cases e))).trans hc2
  exact h
 ·have h := (Below.heap_setCell w1 ⟨b, 1, none⟩ (.pointer none) (c + 1) (hcb _ _ _ (c + 1) hc3 hf.blk (fun t f e => by unfold watchObj at e; cases e))).trans hc3
  exact h
end Go.Proofs.Ytjhgknagmiekeaa.T
set_option linter.unusedVariables false
set_option linter.unusedSimpArgs false
namespace Go.Proofs.Ytjhgknagmiekeaa.T
open Go.RowKit Go.Lib Go.Proofs Go.Proofs.YtjhgknagmiekeaaW.PrintWords
def nsDown (a b : Nat × Value) (ns : Sup) : Sup := fun j => if j = 0 then a else if j = 1 then b else ns (j - 2)
theorem nsDown_tail (a b : Nat × Value) (ns : Sup) : (fun j => nsDown a b ns (j + 2)) = ns := by
 funext j
 simp [nsDown]
theorem belowAt {w w1 w2 : World} (h : Below w.heap.size w w1) (h2 : Below w1.heap.size w1 w2) : Below w.heap.size w w2 :=
 h.trans ⟨h2.os, h2.tape, h2.output, h2.size, fun x hx => h2.block x (by have := h.size; omega)⟩
theorem size_setCell (w : World) (a : Addr) (v : Value) : (w.setCell a v).heap.size = w.heap.size := by simp [World.setCell]
theorem ns_close {w w1 w2 w4 : World} {n : Nd} {b x : Nat} {kv m : Value} {ns : Sup} (B1 : Below w.heap.size w w1) (hs : SupOk w.heap.size w1 ns) (hf : FreshAt w1 w2 n b kv m) (h24 : ∀ y o, w2.heap[y]? = some o → (y < w1.heap.size ∨ ∃ c, m = ptr (c + 1) ∧ (y = c ∨ y = c + 1)) → w4.heap[y]? = some o) (hsz : w2.heap.size ≤ w4.heap.size) (hx : w.heap.size ≤ x ∧ x < w4.heap.size) :
  SupOk w.heap.size w4 (nsDown (b, m) (x, m) ns) := by
 have hb := (Array.getElem?_eq_some_iff.1 hf.blk).1
 have s1 := B1.size
 have s2 := hf.kept.size
 have hm : NewMark w.heap.size w4 m := by
  obtain ⟨c, hm, hc1, hc2, hc3⟩ := hf.mark
  exact ⟨c, hm, by omega, h24 c _ hc2 (.inr ⟨c, hm, .inl rfl⟩), h24 (c + 1) _ hc3 (.inr ⟨c, hm, .inr rfl⟩)⟩
 refine ⟨fun j => ?_, fun j => ?_⟩
 ·unfold nsDown
  split
  ·exact ⟨by have := hf.new; show _ ≤ b; omega, by show b < _; omega⟩
  ·split
   ·exact hx
   ·have := hs.new (j - 2); omega
 ·unfold nsDown
  split
  ·exact hm
  ·split
   ·exact hm
   ·obtain ⟨c, e1, e2, e3, e4⟩ := hs.mark (j - 2)
    have l1 := (Array.getElem?_eq_some_iff.1 e3).1
    have l2 := (Array.getElem?_eq_some_iff.1 e4).1
    exact ⟨c, e1, e2, h24 c _ ((Kept.of hf.kept).at e3) (.inl l1), h24 (c + 1) _ ((Kept.of hf.kept).at e4) (.inl l2)⟩
theorem fresh_apart {w1 w2 : World} {n : Nd} {b : Nat} {kv m : Value} (hf : FreshAt w1 w2 n b kv m) {g : Nat} {cur : Array Value} (hgb : w1.heap.size ≤ g) (hgg : w2.heap[g]? = some (.cells cur 58 (0, 0))) (y : Nat) (o : Obj) (hy : w2.heap[y]? = some o) (h : y < w1.heap.size ∨ ∃ c, m = ptr (c + 1) ∧ (y = c ∨ y = c + 1)) : y ≠ g ∧ y ≠ b := by
 have hb := hf.new
 rcases h with h | ⟨c, hm, h⟩
 ·omega
 ·obtain ⟨c', hm', hc1, hc2, hc3⟩ := hf.mark
  have e : c = c' := by
   rw [hm] at hm'
   unfold ptr at hm'
   injection hm' with e
   injection e with e
   injection e with e
   omega
  subst e
  have hbk := hf.blk
  constructor
  ·intro e; subst e
   rcases h with h | h
   ·subst h; rw [hc2] at hgg; cases hgg
   ·subst h; rw [hc3] at hgg; unfold watchObj at hgg; cases hgg
  ·intro e; subst e
   rcases h with h | h
   ·subst h; rw [hc2] at hbk; cases hbk
   ·subst h; rw [hc3] at hbk; unfold watchObj at hbk; cases hbk
theorem owns_keep {w w' : World} {base n : Nat} {v : Value} {ps : List Value} (h : w.ownsRow base 58 1 v n ps) (k : Kept w w') : w'.ownsRow base 58 1 v n ps := by
 refine ⟨h.1, ?_⟩
 rcases h.2 with h0 | ⟨g, cap, cur, rfl, hb, hg, rest⟩
 ·exact .inl h0
 ·exact .inr ⟨g, cap, cur, rfl, hb, k.at hg, rest⟩
theorem close_set {wB w2 w4 w5 : World} {n s : Nd} {b g cap i : Nat} {cur : Array Value} {m : Value} (hn : NdAt wB n) (K2 : Kept wB w2) (hBs : wB.heap.size ≤ w2.heap.size) (hf : FreshAt w2 w4 n b (.slice (some ⟨g, 0, none⟩) n.kids.length cap) m)
  (hgb : w2.heap.size ≤ g) (hgg : w4.heap[g]? = some (.cells cur 58 (0, 0))) (hgc : ∀ j, j < n.kids.length → cur[j]? = (ptrs n.kids)[j]?) (hgn : n.kids.length ≤ cap) (hgm : cap ≤ maxLen) (hgs : cur.size = cap) (B5 : Below w4.heap.size w4 w5)
  (hs : ∀ W, Kept w2 W → (∀ x, w4.heap.size ≤ x → x < w5.heap.size → W.heap[x]? = w5.heap[x]?) → NdAt W s) (hi : i < n.kids.length) :
  NdAt (w5.setCell ⟨g, i, none⟩ (ptr s.b)) (.mk b n.label n.leaf (n.kids.set i s) m) ∧ Below w2.heap.size w2 (w5.setCell ⟨g, i, none⟩ (ptr s.b)) ∧ (∀ y o, w4.heap[y]? = some o → y ≠ g → (w5.setCell ⟨g, i, none⟩ (ptr s.b)).heap[y]? = some o) := by
 have hB : Below w2.heap.size w2 (w5.setCell ⟨g, i, none⟩ (ptr s.b)) := kept_set (belowAt hf.kept B5) g hgb i (ptr s.b)
 have hK := Kept.of hB
 have hbg : b ≠ g := fun e => by have h := hf.blk; rw [e, hgg] at h; cases h
 have up : ∀ y o, w4.heap[y]? = some o → y ≠ g → (w5.setCell ⟨g, i, none⟩ (ptr s.b)).heap[y]? = some o := fun y o h1 h2 => set_at ((Kept.of B5).at h1) h2
 obtain ⟨kv0, hb0, _, hlf, hks⟩ := hn.parts
 obtain ⟨c, hm, _⟩ := hf.mark
 have KB : Kept wB (w5.setCell ⟨g, i, none⟩ (ptr s.b)) := K2.trans hK hBs
 have hgl : g < w4.heap.size := (Array.getElem?_eq_some_iff.1 hgg).1
 have hpl : (ptrs n.kids).length = n.kids.length := by simp [ptrs]
 refine ⟨NdAt.mk (kv := .slice (some ⟨g, 0, none⟩) n.kids.length cap) (up b _ hf.blk hbg) ?_ (hlf.keep KB) ((NdsAt.keep KB _ hks).set i s (hs _ hK (fun x h1 h2 => ?_))) ⟨_, hm⟩, hB, up⟩
 ·rw [ptrs_set]
  refine row_of_owns (owns_of (base := w2.heap.size) (n := n.kids.length) hgb (heap_setCell w5 (g := g) (o := i) (ptr s.b) ((Kept.of B5).at hgg)) hgn hgm (by simpa using hgs) (by simp [hpl]) ?_)
  intro j hj
  by_cases e : j = i
  ·subst e
   rw [Array.getElem?_setIfInBounds_self_of_lt (by omega), List.getElem?_set_self (by omega)]
  ·rw [Array.getElem?_setIfInBounds_ne (by omega), List.getElem?_set_ne (by omega), hgc j hj]
 ·exact Below.heap_setCell w5 ⟨g, i, none⟩ (ptr s.b) x (by show x ≠ g; omega)
theorem close_del {wB w2 w4 w5 w6 : World} {n : Nd} {b g cap i : Nat} {cur : Array Value} {m : Value} (hn : NdAt wB n) (K2 : Kept wB w2) (hBs : wB.heap.size ≤ w2.heap.size) (hf : FreshAt w2 w4 n b (.slice (some ⟨g, 0, none⟩) n.kids.length cap) m)
  (hgb : w2.heap.size ≤ g) (hgg : w4.heap[g]? = some (.cells cur 58 (0, 0))) (B5 : Below w4.heap.size w4 w5) (o6 : w6.ownsRow w2.heap.size 58 1 (.slice (some ⟨g, 0, none⟩) (n.kids.length - 1) cap) (n.kids.length - 1) (ptrs (n.kids.eraseIdx i))) (g6 : w5.grownBy w6 (some g)) (hi : i < n.kids.length) :
  NdAt (w6.setCell ⟨b, 2, none⟩ (.slice (some ⟨g, 0, none⟩) (n.kids.length - 1) cap)) (.mk b n.label n.leaf (n.kids.eraseIdx i) m) ∧ Below w2.heap.size w2 (w6.setCell ⟨b, 2, none⟩ (.slice (some ⟨g, 0, none⟩) (n.kids.length - 1) cap)) ∧
   (∀ y o, w4.heap[y]? = some o → y ≠ g → y ≠ b → (w6.setCell ⟨b, 2, none⟩ (.slice (some ⟨g, 0, none⟩) (n.kids.length - 1) cap)).heap[y]? = some o) := by
 have hbg : b ≠ g := fun e => by have h := hf.blk; rw [e, hgg] at h; cases h
 have hs2 := hf.kept.size
 have hs5 := B5.size
 have B6 : Below w2.heap.size w2 w6 := (belowAt hf.kept B5).trans (below_grown g6 (by omega) (fun k hk => by cases hk; exact hgb))
 have hB := kept_set B6 b hf.new 2 (.slice (some ⟨g, 0, none⟩) (n.kids.length - 1) cap)
 have hK := Kept.of hB
 have KB := K2.trans hK hBs
 have up6 : ∀ y o, w4.heap[y]? = some o → y ≠ g → w6.heap[y]? = some o := fun y o h1 h2 => grown_at g6 ((Kept.of B5).at h1) (fun e => h2 (by cases e; rfl))
 obtain ⟨kv0, hb0, _, hlf, hks⟩ := hn.parts
 obtain ⟨c, hm, _⟩ := hf.mark
 refine ⟨NdAt.mk (kv := .slice (some ⟨g, 0, none⟩) (n.kids.length - 1) cap) (heap_setCell w6 (g := b) (o := 2) _ (up6 b _ hf.blk hbg)) ?_ (hlf.keep KB) (NdsAt.of fun k hk => (NdsAt.keep KB _ hks).mem k (List.mem_of_mem_eraseIdx hk)) ⟨_, hm⟩, hB, fun y o h1 h2 h3 => set_at (up6 y o h1 h2) h3⟩
 exact row_of_owns (owns_set o6 (by simp [Value.ownBlock]; exact fun e => hbg e.symm) 2 _)
set_option maxHeartbeats 4000000 in
set_option maxRecDepth 100000 in
theorem remove_deep (w : World) (n k : Nd) (rest : ByteArray) (l : Lf) (hn : NdAt w n) (ho : Ok n) (hfit : Fits n 3999999999999) (h0 : rest.size ≠ 0) (hbig : rest.size < 4000000000000) (hd : downN n rest = some k) (hkm : k ∈ n.kids) (hpos : 0 < k.label.size) (hle : k.label.size ≤ rest.size) (hq : kidN n rest = some k)
  (hfk : findT k (L (rest.extract k.label.size rest.size)) = some l) (IH : Calls Try.prog 90 #[ptr k.b, .string (rest.extract k.label.size rest.size)] w (Removed w k (rest.extract k.label.size rest.size) l)) :
  Calls Try.prog 90 #[ptr n.b, .string rest] w (Removed w n rest l) := by
 obtain ⟨hh, hlt, ek⟩ := kidN_some hq
 have hrp : 0 < rest.size := by omega
 have hne := full_of rest hrp
 have q1 := Aside0.mk (downC w n hn ho rest)
 rw [hd] at q1
 obtain ⟨kv2, hb2, _⟩ := (hn.parts.choose_spec.2.2.2.mem k hkm).parts
 have c0 : w.cell? ⟨k.b, 0, none⟩ = some (.string k.label) := by rw [blk_cell hb2]; rfl
 have hleI : (k.label.size : Int) ≤ (rest.size : Int) := by omega
 have hfew := ho.few
 obtain ⟨i, hi⟩ : ∃ i, pos (n.kids.map fb) (fbS rest) = i := ⟨_, rfl⟩
 have q2 := Aside0.mk (fun w1 h1 w2 b kv m hf => kidF w1 w2 n b kv m (NdAt.keep h1 n hn) ho hf (fbS rest) (fbS_lt rest))
 have ex : ((fbS rest : Nat) : Int) = (rest[0].toNat : Int) := by unfold fbS; rw [← byte0 rest hrp]
 rw [hh, ex, hi] at q2
 have q0 := Aside0.mk (fun w1 (h1 : Kept w w1) => fresh w1 n (NdAt.keep h1 n hn) hfew)
 have hd2 := del_find (rest.extract k.label.size rest.size).size (rest.extract k.label.size rest.size) (Nat.le_refl _) k (ho.parts.2.2.get k hkm)
 have hfk2 : Fits k 3999999999999 := Fits.mono (by omega) k (hfit.parts.2.mem k hkm)
 have hlow : ∀ ns low, delN k (rest.extract k.label.size rest.size) ns = some (low, l) → Ok low ∧ Fits low 3999999999999 := fun ns low e => by
  obtain ⟨m, h1, _, h3, _⟩ := (hd2 ns).2 l hfk
  rw [e] at h1
  cases h1
  exact ⟨h3, fits_del _ _ (Nat.le_refl _) k low _ ns l hfk2 e⟩
 have q4 := Aside0.mk (fun (wB w1 : World) (h1 : Kept wB w1) ns low (e : delN k (rest.extract k.label.size rest.size) ns = some (low, l)) (hl : NdAt wB low) => shapedC wB w1 h1 low hl (hlow ns low e).1 (hlow ns low e).2)
 have ed : ∀ ns, delN n rest ns = (delN k (rest.extract k.label.size rest.size) (fun j => ns (j + 2))).map fun x => (.mk (ns 0).1 n.label n.leaf (putKid n.kids i (shapedN x.1 (ns 1).1)) (ns 0).2, x.2) := fun ns => by
  rw [delN, dif_neg h0, hd]; simp only []; rw [dif_pos hpos, hi]
 obtain ⟨len, elen⟩ : ∃ len, n.kids.length = len := ⟨_, rfl⟩
 have hilen : i < len := by rw [← hi, ← elen]; exact hlt
 have q3 := Aside0.mk IH
 have hkb : (ptrs n.kids)[i]? = some (ptr k.b) := by
  rw [← hi]; simp [ptrs, List.getElem?_eq_getElem hlt, ek]
 have HN := Aside0.mk (And.intro hn (And.intro ed (And.intro elen hkb)))
 have hlen256 : len ≤ 256 := by omega
 clear hn ho hfit hd hkm hq hfk IH hh hlt ek hb2 hfew ex hi hd2 hfk2 hlow ed hle hpos hkb
 unfold optPtr at q1
 unfold ptr at q1 q3 ⊢
 go_enter Try.func90, Try.ntmps90
 go_wp2_with (go_at_call 121; refine q1.out.mono ?_; rintro e w1 ⟨rfl, rfl⟩)
 clear q1
 go_wp2_with (go_at_call 90; refine q3.out.mono ?_)
 rintro e w2 ⟨low, ns, rfl, hdel, hlow, hsup, B2⟩
 have q5 := Aside0.mk (q0.out w2 (Kept.of B2))
 have q6 := Aside0.mk (q2.out w2 (Kept.of B2))
 have q7 := Aside0.mk (fun w1 h1 => q4.out w2 w1 h1 ns low hdel hlow)
 have H2 := Aside0.mk (And.intro hdel (And.intro hlow (And.intro hsup B2)))
 clear q3 q0 q2 q4 hdel hlow hsup B2
 unfold ptr
 go_wp2_with (go_at_call 124; refine q5.out.mono ?_)
 rintro e w3 ⟨b, kv, m, rfl, hf⟩
 have q8 := Aside0.mk (q6.out w3 b kv m hf)
 have q9 := Aside0.mk (q7.out w3 (Kept.of hf.kept))
 obtain ⟨g, cap, cur, rfl, hgb, hgg, hgc, hgn, hgm, hgs⟩ := owns_some hf.row (by rw [HN.out.2.2.1]; omega)
 have HF := Aside0.mk hf
 have HG0 := Aside0.mk (And.intro hgc hgn)
 rw [HN.out.2.2.1] at hf hgc hgn
 have HG := Aside0.mk (And.intro hgb (And.intro hgg (And.intro hgc (And.intro hgn (And.intro hgm hgs)))))
 have k2 : w3.cell? ⟨b, 2, none⟩ = some (.slice (some ⟨g, 0, none⟩) len cap) := by rw [blk_cell hf.blk]; rfl
 have f2 : w3.frozen? ⟨b, 2, none⟩ = false := blk_frozen hf.blk 2
 clear q5 q6 q7 hf hgb hgg hgc hgn hgm hgs
 unfold ptr at q8 ⊢
 go_wp2_with (go_at_call 125; refine q8.out.mono ?_)
 rintro e w4 ⟨rfl, rfl⟩
 clear q8
 have hcase := shaped_any low w4.heap.size
 cases hsh : shapedN low w4.heap.size with
 | some s =>
  rw [hsh] at q9
  unfold optPtr ptr at q9
  have HSH := Aside0.mk (And.intro hsh hcase)
  clear hsh hcase
  go_wp2_with (go_at_call 126; refine q9.out.mono ?_)
  rintro e w5 ⟨rfl, h5a, h5b, B5⟩
  have k2' := (Kept.of B5).cell k2
  have hgg5 := (Kept.of B5).at HG.out.2.1
  have hgs2 := HG.out.2.2.2.2.2
  have cgi : w5.cell? ⟨g, i, none⟩ = some (.pointer (some ⟨k.b, 0, none⟩)) := by rw [blk_cell hgg5, HG.out.2.2.1 i hilen]; exact HN.out.2.2.2
  have fgi : w5.frozen? ⟨g, i, none⟩ = false := blk_frozen hgg5 i
  have H5 := Aside0.mk (And.intro h5a (And.intro h5b (And.intro B5 hgg5)))
  clear h5a h5b B5 hgg5 hgs2 q9 k2 f2
  go_wp2_with fail
  go_ret2
  obtain ⟨hdel, hlow, hsup, B2⟩ := H2.out
  obtain ⟨h5a, h5b, B5, hgg5⟩ := H5.out
  obtain ⟨hn, ed, elen, hkb⟩ := HN.out
  obtain ⟨hgb, hgg, hgc, hgn, hgm, hgs⟩ := HG.out
  obtain ⟨hsh, hcase⟩ := HSH.out
  have hf := HF.out
  subst elen
  have hc := close_set (n := n) hn (Kept.of B2) B2.size hf hgb hgg HG0.out.1 HG0.out.2 hgm hgs B5 (fun W h1 h2 => h5a W h1 h2 s rfl) hilen
  obtain ⟨c1, c2, c3⟩ := hc
  have hbl := (Array.getElem?_eq_some_iff.1 hf.blk).1
  have s24 := hf.kept.size
  have s12 := B2.size
  have s45 := B5.size
  have hx : ∃ x, shapedN low x = some s ∧ w1.heap.size ≤ x ∧ x < (w5.setCell ⟨g, i, none⟩ (ptr s.b)).heap.size := by
   rw [size_setCell]
   rcases hcase with h | h
   ·exact ⟨w4.heap.size, hsh, by omega, h5b (by obtain ⟨k', e1, e2⟩ := h; rw [hsh] at e2; exact ⟨k', e1, e2⟩)⟩
   ·exact ⟨b, by rw [h]; exact hsh, by have := hf.new; omega, by omega⟩
  obtain ⟨x, hx1, hx2, hx3⟩ := hx
  refine ⟨.mk b n.label n.leaf (n.kids.set i s) m, nsDown (b, m) (x, m) ns, rfl, ?_, c1, ns_close B2 hsup hf (fun y o hy hh => c3 y o hy (fresh_apart hf hgb hgg y o hy hh).1) (by rw [size_setCell]; exact s45) ⟨hx2, hx3⟩, belowAt B2 c2⟩
  rw [ed, nsDown_tail, hdel]
  show some (Nd.mk b n.label n.leaf (putKid n.kids i (shapedN low x)) m, l) = _
  rw [hx1]
  rfl
 | none =>
  rw [hsh] at q9
  unfold optPtr at q9
  have HSH := Aside0.mk (And.intro hsh hcase)
  clear hsh hcase
  go_wp2_with (go_at_call 126; refine q9.out.mono ?_)
  rintro e w5 ⟨rfl, h5a, h5b, B5⟩
  have k2' := (Kept.of B5).cell k2
  have own5 : w5.ownsRow w2.heap.size 58 1 (.slice (some ⟨g, 0, none⟩) len cap) len (ptrs n.kids) := by
   have := owns_keep HF.out.row (Kept.of B5)
   rw [HN.out.2.2.1] at this
   exact this
  have hbg : b ≠ g := fun e => by have h := HF.out.blk; rw [e, HG.out.2.1] at h; cases h
  have f2' : w5.frozen? ⟨b, 2, none⟩ = false := blk_frozen ((Kept.of B5).at HF.out.blk) 2
  have hb5 := (Kept.of B5).at HF.out.blk
  rw [HN.out.2.2.1] at hb5
  have HB5 := Aside0.mk (And.intro hb5 hbg)
  have q10 := Aside0.mk (delRow w5 w2.heap.size g len cap i n.kids own5 hilen)
  have H5 := Aside0.mk (And.intro h5a (And.intro h5b (And.intro B5 own5)))
  clear h5a h5b B5 q9 k2 f2 own5 hb5 hbg
  have ew : IntKind.i64.wrap ((i : Int) + 1) = (i : Int) + 1 := by rw [IntKind.wrap_i64]; omega
  go_wp2_with (go_at_call 127; refine q10.out.mono ?_)
  rintro e w6 ⟨rfl, o6, g6, _⟩
  have hb6 := grown_at g6 HB5.out.1 (fun e => HB5.out.2 (by cases e; rfl))
  have k2'' : w6.cell? ⟨b, 2, none⟩ = some (.slice (some ⟨g, 0, none⟩) len cap) := by rw [blk_cell hb6]; rfl
  have f2'' : w6.frozen? ⟨b, 2, none⟩ = false := blk_frozen hb6 2
  have H6 := Aside0.mk (And.intro o6 g6)
  clear o6 g6 hb6 q10
  go_wp2_with fail
  go_ret2
  obtain ⟨hdel, hlow, hsup, B2⟩ := H2.out
  obtain ⟨h5a, h5b, B5, own5⟩ := H5.out
  obtain ⟨hn, ed, elen, hkb⟩ := HN.out
  obtain ⟨hgb, hgg, hgc, hgn, hgm, hgs⟩ := HG.out
  obtain ⟨hsh, hcase⟩ := HSH.out
  obtain ⟨o6, g6⟩ := H6.out
  have hf := HF.out
  subst elen
  have hc := close_del (n := n) hn (Kept.of B2) B2.size hf hgb hgg B5 o6 g6 hilen
  obtain ⟨c1, c2, c3⟩ := hc
  have hbl := (Array.getElem?_eq_some_iff.1 hf.blk).1
  have s24 := hf.kept.size
  have s12 := B2.size
  have s45 := B5.size
  have s56 := g6.size
  have hx1 : shapedN low b = none := by
   rcases hcase with ⟨k', _, e2⟩ | h
   ·rw [hsh] at e2; cases e2
   ·rw [h]; exact hsh
  refine ⟨.mk b n.label n.leaf (n.kids.eraseIdx i) m, nsDown (b, m) (b, m) ns, rfl, ?_, c1, ns_close B2 hsup hf (fun y o hy hh => c3 y o hy (fresh_apart hf hgb hgg y o hy hh).1 (fresh_apart hf hgb hgg y o hy hh).2) (by rw [size_setCell]; omega) ⟨by have := hf.new; omega, by rw [size_setCell]; omega⟩, belowAt B2 c2⟩
  rw [ed, nsDown_tail, hdel]
  show some (Nd.mk b n.label n.leaf (putKid n.kids i (shapedN low b)) m, l) = _
  rw [hx1]
  rfl
end Go.Proofs.Ytjhgknagmiekeaa.T
set_option linter.unusedVariables false
set_option linter.unusedSimpArgs false
namespace Go.Proofs.Ytjhgknagmiekeaa.T
open Go.RowKit Go.Lib Go.Proofs Go.Proofs.YtjhgknagmiekeaaW.PrintWords
theorem remove_some : ∀ (N : Nat) (rest : ByteArray), rest.size ≤ N → rest.size < 4000000000000 → ∀ (n : Nd) (l : Lf) (w : World), NdAt w n → Ok n → Fits n 3999999999999 → findT n (L rest) = some l →
    Calls Try.prog 90 #[ptr n.b, .string rest] w (Removed w n rest l) := by
  intro N
  induction N with
  | zero =>
    intro rest hN hb n l w hn ho hfit hf
    exact remove_here n rest l w hn ho (by omega) (by rw [← find_rest0 (rest := rest) (by omega)]; exact hf)
  | succ N ih =>
    intro rest hN hb n l w hn ho hfit hf
    by_cases h0 : rest.size = 0
    · exact remove_here n rest l w hn ho h0 (by rw [← find_rest0 h0]; exact hf)
    · rcases down_cases ho h0 with ⟨_, h⟩ | ⟨k, hd, hkm, hpos, hle, hq, hfk⟩
      · rw [h] at hf; cases hf
      · rw [hfk] at hf
        exact remove_deep w n k rest l hn ho hfit h0 hb hd hkm hpos hle hq hf (ih _ (by simp only [ByteArray.size_extract]; omega) (by simp only [ByteArray.size_extract]; omega) k l w (hn.parts.choose_spec.2.2.2.mem k hkm) (ho.parts.2.2.get k hkm) (Fits.mono (by omega) k (hfit.parts.2.mem k hkm)) hf)
theorem leaf_at {w : World} {root : Nd} (h : Good root) (hn : NdAt w root) {k : ByteArray} {l : Lf} (hf : findT root (L k) = some l) : LfAt w (some l) := by
  have := findN_at w k.size k (Nat.le_refl _) root hn
  rw [find_eq h, hf] at this
  exact this
set_option maxHeartbeats 4000000 in
set_option maxRecDepth 100000 in
theorem treeDelete_none (w : World) (tb : Nat) (root : Nd) (size : Int) (k : ByteArray) (h : TrAt w tb root size) (hg : Fine root) (hk : k.size < 4000000000000) (hf : findT root (L k) = none) :
    Calls Try.prog 39 #[ptr tb, .string k] w fun e w' => e = .returned (.tuple #[ptr tb, .int .i64 0, .bool false]) ∧ w' = w := by
  have q1 := Aside0.mk (remove_none k.size k (Nat.le_refl _) hk root w h.root hg.ok hf)
  have c0 : w.cell? ⟨tb, 0, none⟩ = some (.pointer (some ⟨root.b, 0, none⟩)) := by rw [blk_cell h.blk]; rfl
  clear h hg hf
  unfold ptr at q1 ⊢
  go_enter Try.func39, Try.ntmps39
  go_wp2_with (go_at_call 90; refine q1.out.mono ?_; rintro e w1 ⟨rfl, rfl⟩)
  go_ret3
  exact ⟨rfl, rfl⟩
set_option maxHeartbeats 4000000 in
set_option maxRecDepth 100000 in
theorem treeDelete_some (w : World) (tb : Nat) (root : Nd) (size : Int) (k : ByteArray) (l : Lf) (v : Int) (h : TrAt w tb root size) (hg : Fine root) (hk : k.size < 4000000000000) (hs0 : 0 < size) (hs1 : size < 4000000000000) (hf : findT root (L k) = some l) (hv : l.val = .int .i64 v) :
    Calls Try.prog 39 #[ptr tb, .string k] w fun e w' => ∃ tb' m ns, e = .returned (.tuple #[ptr tb', .int .i64 v, .bool true]) ∧ TrAt w' tb' m (size - 1) ∧ delN root k ns = some (m, l) ∧ w.heap.size ≤ tb' ∧ SupOk w.heap.size w' ns ∧ Below w.heap.size w w' := by
  have q1 := Aside0.mk (remove_some k.size k (Nat.le_refl _) hk root l w h.root hg.ok hg.fits hf)
  have c0 : w.cell? ⟨tb, 0, none⟩ = some (.pointer (some ⟨root.b, 0, none⟩)) := by rw [blk_cell h.blk]; rfl
  have c1 : w.cell? ⟨tb, 1, none⟩ = some (.int .i64 size) := by rw [blk_cell h.blk]; rfl
  have hl := leaf_at hg.toGood h.root hf l rfl
  have cv : w.cell? ⟨l.b, 1, none⟩ = some (.int .i64 v) := by rw [blk_cell hl, hv]; rfl
  have H := Aside0.mk (And.intro h hs0)
  have ew : IntKind.i64.wrap (size - 1) = size - 1 := by rw [IntKind.wrap_i64]; omega
  have ew2 : wrap64 (size - 1) = size - 1 := by unfold wrap64; omega
  have HW := Aside0.mk (And.intro ew ew2)
  clear h hg hf hl hv ew ew2
  unfold ptr at q1 ⊢
  go_enter Try.func39, Try.ntmps39
  go_wp2_with (go_at_call 90; refine q1.out.mono ?_)
  rintro e w1 ⟨m, ns, rfl, hdel, hm, hsup, B1⟩
  have d1 := (Kept.of B1).cell c1
  have dv := (Kept.of B1).cell cv
  have H1 := Aside0.mk (And.intro hdel (And.intro hm (And.intro hsup B1)))
  clear hdel hm hsup B1 q1 c0 c1 cv
  unfold ptr
  have ew := HW.out.1
  go_wp2_with fail
  go_region_held3 (fun w' => w'.cell? ⟨tb, 1, none⟩ = some (.int .i64 size) ∧ w'.cell? ⟨l.b, 1, none⟩ = some (.int .i64 v))
    (first | exact ⟨d1, dv⟩ | exact ⟨cellA d1, cellA dv⟩)
    (fail)
  go_wp2_with fail
  go_ret3
  obtain ⟨hdel, hm, hsup, B1⟩ := H1.out
  have B := (B1.alloc B1.size (.cells #[.pointer (some ⟨m.b, 0, none⟩), .int .i64 (size - 1)] 124))
  have K : Kept w1 (w1.alloc (.cells #[.pointer (some ⟨m.b, 0, none⟩), .int .i64 (size - 1)] 124)).drew := fun x hx => Kept.of ((Below.refl _ w1).alloc (Nat.le_refl _) _) x hx
  refine ⟨w1.heap.size, m, ns, rfl, ⟨heap_alloc_new w1 _, NdAt.keep K _ hm⟩, hdel, B1.size, ⟨fun j => ?_, fun j => (hsup.mark j).keep K⟩, ⟨B.os, B.tape, B.output, B.size, B.block⟩⟩
  have h1 := hsup.new j
  have : (w1.alloc (.cells #[.pointer (some ⟨m.b, 0, none⟩), .int .i64 (size - 1)] 124)).drew.heap.size = w1.heap.size + 1 := by
    show (w1.alloc _).heap.size = _
    rw [World.size_alloc]
  omega
end Go.Proofs.Ytjhgknagmiekeaa.T
set_option linter.unusedVariables false
set_option linter.unusedSimpArgs false
namespace Go.Proofs.Ytjhgknagmiekeaa.T
open Go.RowKit Go.Lib Go.Proofs Go.Proofs.YtjhgknagmiekeaaW.PrintWords
def nodeV (b : Nat) (path : ByteArray) : Value := .agg #[ptr b, .string path]
set_option maxHeartbeats 4000000 in
set_option maxRecDepth 100000 in
theorem rootC (w : World) (tb : Nat) (root : Nd) (size : Int) (h : TrAt w tb root size) : Calls Try.prog 42 #[ptr tb] w fun e w' => e = .returned (nodeV root.b ⟨#[]⟩) ∧ Below w.heap.size w w' := by
  have c0 : w.cell? ⟨tb, 0, none⟩ = some (.pointer (some ⟨root.b, 0, none⟩)) := by rw [blk_cell h.blk]; rfl
  have HB := Aside0.mk ((Below.refl w.heap.size w).alloc (Nat.le_refl _) (.cells #[.pointer (some ⟨root.b, 0, none⟩), .string ⟨#[]⟩] 60))
  have c1 : (w.alloc (.cells #[.pointer none, .string ⟨#[]⟩] 60)).cell? ⟨tb, 0, none⟩ = some (.pointer (some ⟨root.b, 0, none⟩)) := cellA c0
  clear h c0
  unfold nodeV ptr
  go_enter Try.func42, Try.ntmps42
  go_wp2_with fail
  exact bodyPost_ret (v := .agg #[.pointer (some ⟨root.b, 0, none⟩), .string ⟨#[]⟩]) (by simp [results, Try.results42, go_sem]) rfl ⟨rfl, HB.out⟩
set_option maxHeartbeats 4000000 in
set_option maxRecDepth 100000 in
theorem pathC (w : World) (b : Nat) (path : ByteArray) : Calls Try.prog 94 #[nodeV b path] w fun e w' => e = .returned (.string path) ∧ Below w.heap.size w w' := by
  have HB := Aside0.mk ((Below.refl w.heap.size w).alloc (Nat.le_refl _) (.cells #[.pointer (some ⟨b, 0, none⟩), .string path] 60))
  unfold nodeV ptr
  go_enter Try.func94, Try.ntmps94
  go_wp2_with fail
  go_ret
  exact ⟨rfl, HB.out⟩
def lookV : Option Lf → Value
  | none => .tuple #[.int .i64 0, .bool false]
  | some l => .tuple #[l.val, .bool true]
set_option maxHeartbeats 4000000 in
set_option maxRecDepth 100000 in
theorem valueC (w : World) (n : Nd) (path : ByteArray) (hn : NdAt w n) : Calls Try.prog 93 #[nodeV n.b path] w fun e w' => e = .returned (lookV n.leaf) ∧ Below w.heap.size w w' := by
  have HB := Aside0.mk ((Below.refl w.heap.size w).alloc (Nat.le_refl _) (.cells #[.pointer (some ⟨n.b, 0, none⟩), .string path] 60))
  have hn1 := NdAt.keep (Kept.of HB.out) n hn
  obtain ⟨kv, hb, hr, hl, hk⟩ := hn1.parts
  obtain ⟨lp, elp⟩ := leafPtr_form n.leaf
  have c1 : (w.alloc (.cells #[.pointer (some ⟨n.b, 0, none⟩), .string path] 60)).cell? ⟨n.b, 1, none⟩ = some (.pointer lp) := by rw [blk_cell hb, elp]; rfl
  have q := told (w.alloc (.cells #[.pointer (some ⟨n.b, 0, none⟩), .string path] 60)) n.leaf hl
  rw [elp] at q
  obtain ⟨a, b, c, ha, hla⟩ : ∃ a b c, toldV n.leaf = .tuple #[a, b, c] ∧ lookV n.leaf = .tuple #[b, c] := by cases n.leaf <;> exact ⟨_, _, _, rfl, rfl⟩
  rw [ha] at q
  rw [hla]
  have q1 := Aside0.mk q
  clear hn hn1 hb hr hl hk elp q ha hla
  unfold nodeV ptr
  go_enter Try.func93, Try.ntmps93
  go_wp2_with (go_at_call 87; refine q1.out.mono ?_; rintro e w1 ⟨rfl, Q1⟩; have HQ := Aside0.mk Q1; clear Q1)
  go_ret2
  exact ⟨rfl, HB.out.trans (HQ.out.below _)⟩
def NodeRow (w : World) (v : Value) (xs : List (Nat × ByteArray)) : Prop := ∃ A c, v = .slice A xs.length c ∧ ∀ i (h : i < xs.length), ∃ g, A = some ⟨g, 0, none⟩ ∧ w.cell? ⟨g, i * 2, none⟩ = some (ptr xs[i].1) ∧ w.cell? ⟨g, i * 2 + 1, none⟩ = some (.string xs[i].2)
theorem NodeRow.keep {w w' : World} {v : Value} {xs : List (Nat × ByteArray)} (h : NodeRow w v xs) (k : Kept w w') : NodeRow w' v xs := by
  obtain ⟨A, c, e, h⟩ := h
  refine ⟨A, c, e, fun i hi => ?_⟩
  obtain ⟨g, e1, h1, h2⟩ := h i hi
  exact ⟨g, e1, k.cell h1, k.cell h2⟩
def flatK (path : ByteArray) (ks : List Nd) : List Value := ks.flatMap fun k => [ptr k.b, .string (path ++ k.label)]
theorem flatK_snoc (path : ByteArray) (ks : List Nd) (k : Nd) : flatK path (ks ++ [k]) = flatK path ks ++ [ptr k.b, .string (path ++ k.label)] := by simp [flatK]
theorem flatK_get (path : ByteArray) : ∀ (ks : List Nd) (i : Nat) (h : i < ks.length), (flatK path ks)[i * 2]? = some (ptr ks[i].b) ∧ (flatK path ks)[i * 2 + 1]? = some (.string (path ++ ks[i].label))
  | k :: ks, 0, _ => by simp [flatK]
  | k :: ks, i + 1, h => by
    have ih := flatK_get path ks i (by simpa using h)
    have e : flatK path (k :: ks) = ptr k.b :: .string (path ++ k.label) :: flatK path ks := rfl
    rw [e, show (i + 1) * 2 = i * 2 + 1 + 1 by omega, show i * 2 + 1 + 1 + 1 = (i * 2 + 1) + 1 + 1 by omega]
    simpa using ih
theorem infoNode : (Try.prog.info? 60).map (fun i => (i.zero, i.size, i.bytes)) = some (some (.agg #[.pointer none, .string ⟨#[]⟩]), 2, 24) := by kernel_rfl
set_option maxHeartbeats 4000000 in
set_option maxRecDepth 100000 in
theorem kidsO (w : World) (n : Nd) (path : ByteArray) (hn : NdAt w n) (ho : Ok n) (hp : ∀ k ∈ n.kids, path.size + k.label.size < 9000000000000000000) :
    Calls Try.prog 95 #[nodeV n.b path] w fun e w' => ∃ v, e = .returned v ∧ w'.ownsRow (w.heap.size + 1) 60 2 v n.kids.length (flatK path n.kids) ∧ Below w.heap.size w w' := by
  obtain ⟨i0, hi, hz0, hz1, hz2⟩ := info_parts infoNode
  have hfew := ho.few
  have HB := Aside0.mk ((Below.refl w.heap.size w).alloc (Nat.le_refl _) (.cells #[.pointer (some ⟨n.b, 0, none⟩), .string path] 60))
  have hn1 := NdAt.keep (Kept.of HB.out) n hn
  obtain ⟨kv, hb, hr, hl, hk⟩ := hn1.parts
  obtain ⟨A, c, rfl, hrc⟩ := hr.open
  have elen : (ptrs n.kids).length = n.kids.length := by simp [ptrs]
  rw [elen] at hb
  obtain ⟨len, hlen⟩ : ∃ len, n.kids.length = len := ⟨_, rfl⟩
  have c2 : (w.alloc (.cells #[.pointer (some ⟨n.b, 0, none⟩), .string path] 60)).cell? ⟨n.b, 2, none⟩ = some (.slice A len c) := by rw [blk_cell hb, ← hlen]; rfl
  have HR := Aside0.mk (And.intro hrc (And.intro hk (And.intro hp hlen)))
  have hbox := heap_alloc_new w (.cells #[.pointer (some ⟨n.b, 0, none⟩), .string path] 60)
  have HX := Aside0.mk hbox
  have hl256 : len ≤ 256 := by omega
  have HI := Aside0.mk (And.intro hi (And.intro hz0 (And.intro hz1 hz2)))
  clear hn hn1 ho hp hb hr hl hk hrc elen hfew hbox hi hz0 hz1 hz2
  unfold nodeV ptr
  go_enter Try.func95, Try.ntmps95
  go_wp2_with fail
  go_loopg [3, 5, 12] (len + 1) (fun kq v3 v5 v12 w' => ∃ i : Nat, v12 = .int .i64 (i : Int) ∧ Aside0 (i + kq = len + 1 ∧ i ≤ len) ∧ Aside0 (w'.ownsRow (w.heap.size + 1) 60 2 v3 i (flatK path (n.kids.take i))) ∧ Aside0 (Below (w.heap.size + 1) (w.alloc (.cells #[.pointer (some ⟨n.b, 0, none⟩), .string path] 60)) w'))
  case atStart => exact ⟨0, rfl, ⟨by omega⟩, ⟨World.ownsRow_nil _ _ _ _⟩, ⟨Below.refl _ _⟩⟩
  case round =>
    obtain ⟨i, rfl, HQ, HO, HW⟩ := hrel
    by_cases hlt : i < len
    · have hi' : i < n.kids.length := by rw [HR.out.2.2.2]; exact hlt
      obtain ⟨ad, eA, hca⟩ := HR.out.1 i (by simpa [ptrs] using hi')
      obtain ⟨k, ek⟩ : ∃ k, n.kids[i] = k := ⟨_, rfl⟩
      have hkm : k ∈ n.kids := by rw [← ek]; exact List.getElem_mem _
      have epk : (ptrs n.kids)[i]'(by simpa [ptrs] using hi') = ptr k.b := by simp [ptrs, ek]
      rw [epk] at hca
      obtain ⟨kv2, hb2, _⟩ := (HR.out.2.1.mem k hkm).parts
      have KW : Kept (w.alloc (.cells #[.pointer (some ⟨n.b, 0, none⟩), .string path] 60)) wr := Kept.of (by have := HW.out; rwa [World.size_alloc])
      have d0 : wr.cell? ⟨k.b, 0, none⟩ = some (.string k.label) := by rw [blk_cell (KW.at hb2)]; rfl
      have d1 : wr.cell? (ad.add i) = some (.pointer (some ⟨k.b, 0, none⟩)) := KW.cell hca
      have e1 : wr.cell? ⟨w.heap.size, 1, none⟩ = some (.string path) := by rw [blk_cell (KW.at HX.out)]; rfl
      have hadd := fun w1 : World => run_string_add_sum (P := Try.prog) w1 path k.label (by have := HR.out.2.2.1 k hkm; omega)
      have HK := Aside0.mk (show n.kids[i]? = some k by rw [List.getElem?_eq_getElem hi', ek])
      have hltI : (i : Int) < (len : Int) := by omega
      have ew : IntKind.i64.wrap ((i : Int) + 1) = (i : Int) + 1 := by rw [IntKind.wrap_i64]; omega
      subst eA
      clear hca ek hkm epk hb2 KW hi'
      go_wp2_with fail
      have h1c : Aside0 (∀ u ∈ [Value.pointer (some ⟨k.b, 0, none⟩), Value.string (path ++ k.label)], u.oneCell' = true) := ⟨by simp [Value.oneCell']⟩
      have HO2 : Aside0 (wr.drew.ownsRow (w.heap.size + 1) 60 2 u3 i (flatK path (n.kids.take i))) := ⟨HO.out⟩
      have HW2 : Aside0 (Below (w.heap.size + 1) (w.alloc (.cells #[.pointer (some ⟨n.b, 0, none⟩), .string path] 60)) wr.drew) := ⟨⟨HW.out.os, HW.out.tape, HW.out.output, HW.out.size, HW.out.block⟩⟩
      have hbs : Aside0 (w.heap.size + 1 ≤ wr.drew.heap.size) := ⟨by have := HW.out.size; rw [World.size_alloc] at this; exact this⟩
      have hbl : Aside0 ((i + 1) * 24 ≤ 140737488355328) := ⟨by omega⟩
      go_region_law (refine step_append_cells (w0 := w.alloc (.cells #[.pointer (some ⟨n.b, 0, none⟩), .string path] 60)) (W := wr.drew) (w.heap.size + 1) rfl (.tmp 16) (.tmp 26) 132 60 (.agg #[.pointer none, .string ⟨#[]⟩]) 2 24 rfl Try.underlying132 infoNode rfl (by decide) (by decide) u3 i _ [.pointer (some ⟨k.b, 0, none⟩), .string (path ++ k.label)] (by simp [Act.eval, Act.put]) (by simp [Act.eval, Act.put]) rfl h1c.out HO2.out HW2.out hbs.out hbl.out ?_; intro v1 w2 o1 b1 g1 at1; have H1 := Aside0.mk (And.intro o1 b1); clear o1 b1 g1 at1)
      all_goals
        go_wp2_with fail
        go_roundg (len - i)
        case measure => have := HQ.out; omega
        case rel =>
          refine ⟨i + 1, by simp, ⟨by have := HQ.out; omega⟩, ⟨?_⟩, ⟨H1.out.2⟩⟩
          have e : n.kids.take (i + 1) = n.kids.take i ++ [k] := by
            rw [List.take_add_one, HK.out]; rfl
          rw [e, flatK_snoc]
          exact H1.out.1
    · have hin : i = len := by have := HQ.out; omega
      subst hin
      go_wp2_with fail
      go_ret
      have e : n.kids.take i = n.kids := List.take_of_length_le (by rw [HR.out.2.2.2]; exact Nat.le_refl _)
      have ho := HO.out
      rw [e] at ho
      have hB := HW.out
      have hl := HR.out.2.2.2
      rw [← hl] at ho
      exact ⟨_, rfl, ho, HB.out.trans ⟨hB.os, hB.tape, hB.output, hB.size, fun x hx => hB.block x (by omega)⟩⟩
end Go.Proofs.Ytjhgknagmiekeaa.T
set_option linter.unusedVariables false
set_option linter.unusedSimpArgs false
namespace Go.Proofs.Ytjhgknagmiekeaa.T
open Go.RowKit Go.Lib Go.Proofs Go.Proofs.YtjhgknagmiekeaaW.PrintWords
structure Tr (w : World) (tb : Nat) (root : Nd) : Prop where
  at_ : TrAt w tb root ((All root).length : Int)
  fine : Fine root
  vals : IntVals root
theorem Tr.keep {w w' : World} {tb : Nat} {root : Nd} (h : Tr w tb root) (k : Kept w w') : Tr w' tb root := ⟨h.at_.keep k, h.fine, h.vals⟩
def gotV : Option Value → Value
  | none => .tuple #[.int .i64 0, .bool false]
  | some v => .tuple #[v, .bool true]
def wasV (tb : Nat) : Option Value → Value
  | none => .tuple #[ptr tb, .int .i64 0, .bool false]
  | some v => .tuple #[ptr tb, v, .bool true]
theorem newC (w : World) : Calls Try.prog 45 #[] w fun e w' => ∃ tb root, e = .returned (ptr tb) ∧ Tr w' tb root ∧ (∀ r, valT root r = none) ∧ All root = [] ∧ Below w.heap.size w w' := by
  refine (treeNew w).mono ?_
  rintro e w' ⟨tb, b, m, rfl, h1, h2, h3, h4, h5⟩
  exact ⟨tb, emptyN b m, rfl, ⟨by rw [all_empty]; exact h1, fine_empty b m, vals_empty b m⟩, valT_empty b m, all_empty b m, h5⟩
theorem getC (w : World) (tb : Nat) (root : Nd) (h : Tr w tb root) (k : ByteArray) (hk : k.size < 4000000000000) : Calls Try.prog 35 #[ptr tb, .string k] w fun e w' => e = .returned (gotV (valT root (L k))) ∧ Below w.heap.size w w' := by
  refine (treeGet w tb root _ k h.at_ h.fine.ok h.fine.sm h.fine.top hk).mono ?_
  rintro e w' ⟨rfl, hB⟩
  refine ⟨?_, hB⟩
  rw [seek_eq h.fine.toGood]
  unfold valT
  cases findT root (L k) <;> rfl
theorem insC (w : World) (tb : Nat) (root : Nd) (h : Tr w tb root) (k : ByteArray) (v : Int) (hk : k.size < 4000000000000) (hs : (All root).length < 3999999999999) :
    Calls Try.prog 43 #[ptr tb, .string k, .int .i64 v] w fun e w' => ∃ tb' root', e = .returned (wasV tb' (valT root (L k))) ∧ Tr w' tb' root' ∧ (∀ r, valT root' r = if r = L k then some (.int .i64 v) else valT root r) ∧ (All root').length ≤ (All root).length + 1 ∧ Below w.heap.size w w' := by
  refine (treeInsert w tb root _ v k h.at_ h.fine.ok h.fine.sm hk (by omega) (by omega)).mono ?_
  rintro e w' ⟨tb', lb, m, ns, had, old, rfl, h1, h2, h3, h4, h5, h6, hB⟩
  have hg := fine_ins h.fine k hk ⟨lb, k, .int .i64 v, m⟩ rfl ns
  have hl := len_ins h.fine.toGood k ⟨lb, k, .int .i64 v, m⟩ ns hg.toGood
  rw [find_eq h.fine.toGood] at h2
  refine ⟨tb', insN root k ⟨lb, k, .int .i64 v, m⟩ ns, ?_, ⟨?_, hg, vals_ins h.fine.toGood h.vals k _ v rfl ns⟩, valT_ins h.fine.toGood k _ ns, ?_, hB⟩
  · unfold valT
    cases e : findT root (L k) with
    | none => rw [e] at h2; cases h2; rfl
    | some l => rw [e] at h2; cases h2; rfl
  · have e : (All root).length + incr had = ((All (insN root k ⟨lb, k, .int .i64 v, m⟩ ns)).length : Int) := by
      rw [hl]
      cases e : findT root (L k) with
      | none => rw [e] at h2; cases h2; rfl
      | some l => rw [e] at h2; cases h2; rfl
    rw [← e]
    exact h1
  · have : (if findT root (L k) = none then (1 : Int) else 0) ≤ 1 := by split <;> omega
    omega
theorem delC (w : World) (tb : Nat) (root : Nd) (h : Tr w tb root) (k : ByteArray) (hk : k.size < 4000000000000) (hs : (All root).length < 3999999999999) :
    Calls Try.prog 39 #[ptr tb, .string k] w fun e w' => ∃ tb' root', e = .returned (wasV tb' (valT root (L k))) ∧ Tr w' tb' root' ∧ (∀ r, valT root' r = if r = L k then none else valT root r) ∧ (All root').length ≤ (All root).length ∧ Below w.heap.size w w' := by
  cases e : findT root (L k) with
  | none =>
    refine (treeDelete_none w tb root _ k h.at_ h.fine hk e).mono ?_
    rintro e' w' ⟨rfl, rfl⟩
    refine ⟨tb, root, by unfold valT; rw [e]; rfl, h, fun r => ?_, Nat.le_refl _, Below.refl _ _⟩
    split
    · rename_i hr; subst hr; unfold valT; rw [e]; rfl
    · rfl
  | some l =>
    obtain ⟨v, hv⟩ := h.vals _ l e
    have hpos : 0 < (All root).length := by
      have := (mem_all h.fine.toGood _ l).2 e
      exact List.length_pos_of_mem this
    refine (treeDelete_some w tb root _ k l v h.at_ h.fine hk (by omega) (by omega) e hv).mono ?_
    rintro e' w' ⟨tb', m, ns, rfl, h1, h2, h3, h4, hB⟩
    obtain ⟨f1, f2, f3⟩ := fine_del h.fine k l ns h2
    have hl := len_del h.fine k l ns h2
    refine ⟨tb', m, ?_, ⟨by rw [hl]; exact h1, f1, fun r l' e' => ?_⟩, valT_del h.fine k l ns h2, by omega, hB⟩
    · unfold valT; rw [e]; show _ = Ending.returned (.tuple #[ptr tb', l.val, .bool true]); rw [hv]
    · rw [f3] at e'
      split at e'
      · cases e'
      · exact h.vals r l' e'
end Go.Proofs.Ytjhgknagmiekeaa.T
set_option linter.unusedVariables false
set_option linter.unusedSimpArgs false
namespace Go.Proofs.Ytjhgknagmiekeaa.V
open Go.RowKit Go.Lib Go.Proofs Go.Proofs.YtjhgknagmiekeaaW.PrintWords Go.Proofs.Ytjhgknagmiekeaa.T
structure KpM (n₁ : Nat) (M : Nat → Prop) (W W' : World) : Prop where
  size : W.heap.size ≤ W'.heap.size
  low : ∀ (k : Nat) (o : Obj), W.heap[k]? = some o → k < n₁ → ¬ M k → W'.heap[k]? = some o
  node : ∀ (k : Nat) (cs : Array Value) (fr : Nat × Nat), W.heap[k]? = some (Obj.cells cs 60 fr) → W'.heap[k]? = some (Obj.cells cs 60 fr)
theorem KpM.trans {n₁ : Nat} {M : Nat → Prop} {A B C : World} (h : KpM n₁ M A B) (k : KpM n₁ M B C) : KpM n₁ M A C :=
  ⟨Nat.le_trans h.size k.size, fun i o hi h1 h2 => k.low i o (h.low i o hi h1 h2) h1 h2, fun i cs fr hi => k.node i cs fr (h.node i cs fr hi)⟩
theorem KpM.of {n₁ : Nat} {M : Nat → Prop} {W W' : World} (h : Below W.heap.size W W') : KpM n₁ M W W' :=
  ⟨h.size, fun k o hk _ _ => (h.block k (Array.getElem?_eq_some_iff.1 hk).1).trans hk, fun k cs fr hk => (h.block k (Array.getElem?_eq_some_iff.1 hk).1).trans hk⟩
theorem KpM.putObj {n₁ : Nat} {M : Nat → Prop} (W : World) (l : Nat) (o o' : Obj) (hn : n₁ ≤ l) (hl : W.heap[l]? = some o) (hc : o.isCells = false) : KpM n₁ M W (W.putObj l o') := by
  have hg := grownBy_putObj' W l o'
  refine ⟨hg.size, fun k x hk h1 h2 => ?_, fun k cs fr hk => ?_⟩
  · exact (hg.block k (Array.getElem?_eq_some_iff.1 hk).1 (fun e => by cases e; omega)).trans hk
  · refine (hg.block k (Array.getElem?_eq_some_iff.1 hk).1 (fun e => ?_)).trans hk
    cases e
    rw [hk] at hl
    cases hl
    cases hc
def Stnd (wI : World) (n₁ : Nat) (M : Nat → Prop) (W : World) : Prop := ∀ (k : Nat) (o : Obj), wI.heap[k]? = some o → k < n₁ → ¬ M k → W.heap[k]? = some o
theorem Stnd.refl (wI : World) (n₁ : Nat) (M : Nat → Prop) : Stnd wI n₁ M wI := fun _ _ h _ _ => h
theorem Stnd.kp {wI : World} {n₁ : Nat} {M : Nat → Prop} {W W' : World} (h : Stnd wI n₁ M W) (k : KpM n₁ M W W') : Stnd wI n₁ M W' := fun i o h0 h1 h2 => k.low i o (h i o h0 h1 h2) h1 h2
theorem Stnd.kept {wB wI : World} {n₁ : Nat} {M : Nat → Prop} {W : World} (h : Stnd wI n₁ M W) (hk : Kept wB wI) (hn : wB.heap.size ≤ n₁) (hM : ∀ k, k < wB.heap.size → ¬ M k) : Kept wB W := fun k hlt => by
  have e : wB.heap[k]? = some wB.heap[k] := Array.getElem?_eq_getElem hlt
  rw [e]
  exact h k _ ((hk k hlt).trans e) (by omega) (hM k hlt)
def valI : Value → Int
  | .int _ v => v
  | _ => 0
def ownE (kp : ByteArray → Bool) (p : ByteArray) : Option Lf → List (ByteArray × Int)
  | some l => if kp p then [(p, valI l.val)] else []
  | none => []
mutual
/-- the entries at and beneath a node, rising; sk: which subtrees are left out; kp: which keys are given -/
def ovr (sk kp : ByteArray → Bool) (p : ByteArray) : Nd → List (ByteArray × Int)
  | .mk _ _ leaf kids _ => if sk p then [] else ownE kp p leaf ++ ovrs sk kp p kids
def ovrs (sk kp : ByteArray → Bool) (p : ByteArray) : List Nd → List (ByteArray × Int)
  | [] => []
  | k :: r => ovr sk kp (p ++ k.label) k ++ ovrs sk kp p r
end
theorem ovr_eq (sk kp : ByteArray → Bool) (p : ByteArray) (n : Nd) : ovr sk kp p n = if sk p then [] else ownE kp p n.leaf ++ ovrs sk kp p n.kids := by
  cases n with
  | mk b label leaf kids mark => rw [ovr]; rfl
theorem ovrs_snoc (sk kp : ByteArray → Bool) (p : ByteArray) (k : Nd) : ∀ ks : List Nd, ovrs sk kp p (ks ++ [k]) = ovrs sk kp p ks ++ ovr sk kp (p ++ k.label) k
  | [] => by simp [ovrs]
  | x :: r => by rw [List.cons_append, ovrs, ovrs, ovrs_snoc sk kp p k r, List.append_assoc]
theorem ovrs_take (sk kp : ByteArray → Bool) (p : ByteArray) (ks : List Nd) (i : Nat) (h : i < ks.length) : ovrs sk kp p (ks.take (i + 1)) = ovrs sk kp p (ks.take i) ++ ovr sk kp (p ++ ks[i].label) ks[i] := by
  have e : ks.take (i + 1) = ks.take i ++ [ks[i]] := by rw [List.take_add_one, List.getElem?_eq_getElem h]; rfl
  rw [e, ovrs_snoc]
theorem ovrs_pre (sk kp : ByteArray → Bool) (p : ByteArray) : ∀ (ks : List Nd) (i : Nat), ovrs sk kp p (ks.take i) <+: ovrs sk kp p ks
  | [], i => by simp
  | k :: r, 0 => by simp [ovrs]
  | k :: r, i + 1 => by
    rw [List.take_succ_cons, ovrs, ovrs]
    exact (List.prefix_append_right_inj _).2 (ovrs_pre sk kp p r i)
def Abd {β : Type} (J : β → World → Prop) : Prop := ∀ s W W', J s W → Below W.heap.size W W' → J s W'
theorem abide {β : Type} {J : β → World → Prop} (h : Abd J) {s : β} {W W' : World} (hs : J s W) (hb : Below W.heap.size W W') : J s W' := h s W W' hs hb
theorem abd_of {β : Type} {B : Nat} {J : β → World → Prop} (h : AbidesFrom B J) : Abd J := fun s W W' hs hb => h s W W' none hs ⟨hb.os, hb.tape, hb.output, hb.size, fun k hk _ => hb.block k hk⟩ (fun r e => by cases e)
theorem room_none (k : Nat) : Fence.wide.room k := fun d h => by cases h
theorem roundDepth {m m' : Nat} {P : Program} {l : Nat} {f : FuncId} {tmps : Array Value} {assign body : Code} {w : World} {R : Ending → World → Prop}
    (h : RoundIn Fence.wide m P l f tmps assign body w R) : RoundIn Fence.wide m' P l f tmps assign body w R := ⟨h.1, fun c cs _ => h.2 c cs (room_none _)⟩
theorem yieldDepth {m : Nat} (m' : Nat) {P : Program} {l : Nat} {args : Array Value} {W : World} {R : Ending → World → Prop} (h : YieldAt Fence.wide m P l args W R) : YieldAt Fence.wide m' P l args W R := by
  obtain ⟨fn, tmps, assign, body, hy, hR⟩ := h
  exact ⟨fn, tmps, assign, body, hy, roundDepth hR⟩
end Go.Proofs.Ytjhgknagmiekeaa.V
set_option linter.unusedVariables false
set_option linter.unusedSimpArgs false
set_option linter.unusedSectionVars false
namespace Go.Proofs.Ytjhgknagmiekeaa.N
open Go.RowKit Go.Proofs.Ytjhgknagmiekeaa.K Go.Proofs.YtjhgknagmiekeaaW.PrintWords Go.Proofs.YtjhgknagmiekeaaW.PrintLast
open Go.Proofs.Ytjhgknagmiekeaa.T (Nd Lf Ent ents entss All valT findT IntVals Ok Oks mem_all all_rise Fine Tr)
open Go.Proofs.Ytjhgknagmiekeaa.V (valI ovr ovrs ownE ovr_eq)
abbrev Kv := List UInt8 × Int
def ey (e : Ent) : Kv := (e.1, valI e.2.val)
def ex (x : ByteArray × Int) : Kv := (T.L x.1, x.2)
theorem ex_inj {x y : ByteArray × Int} (h : ex x = ex y) : x = y := by
  unfold ex at h
  obtain ⟨h1, h2⟩ := Prod.mk.inj h
  exact Prod.ext (T.L_inj h1) h2
def Agree (root : Nd) (t : Rt) : Prop := (All root).map ey = (t.ks.zip t.vs).map ex
theorem mem_ey {root : Nd} (h : T.Good root) (hv : IntVals root) (q : List UInt8) (x : Int) : (q, x) ∈ (All root).map ey ↔ valT root q = some (.int .i64 x) := by
  rw [List.mem_map]
  unfold valT
  constructor
  · rintro ⟨⟨q', l⟩, hm, he⟩
    unfold ey at he
    obtain ⟨h1, h2⟩ := Prod.mk.inj he
    dsimp only at h1 h2
    subst h1
    have hf := (mem_all h q' l).1 hm
    obtain ⟨v, ev⟩ := hv _ _ hf
    rw [hf, Option.map_some, ev]
    rw [ev] at h2
    rw [← h2]
    rfl
  · intro he
    cases hf : findT root q with
    | none => rw [hf] at he; cases he
    | some l =>
      rw [hf, Option.map_some] at he
      refine ⟨(q, l), (mem_all h q l).2 hf, ?_⟩
      unfold ey
      dsimp only
      rw [Option.some.inj he]
      rfl
theorem zip_take_key {ks : List ByteArray} {vs : List Int} {n : Nat} {x : ByteArray × Int} (h : x ∈ (ks.zip vs).take n) : x.1 ∈ ks.take n := by
  have e : (ks.zip vs).take n = (ks.take n).zip (vs.take n) := List.take_zipWith
  rw [e] at h
  exact (List.of_mem_zip h).1
theorem zip_drop_key {ks : List ByteArray} {vs : List Int} {n : Nat} {x : ByteArray × Int} (h : x ∈ (ks.zip vs).drop n) : x.1 ∈ ks.drop n := by
  have e : (ks.zip vs).drop n = (ks.drop n).zip (vs.drop n) := List.drop_zipWith
  rw [e] at h
  exact (List.of_mem_zip h).1
theorem mem_put {ks : List ByteArray} {vs : List Int} {a : ByteArray} {v : Int} {n : Nat} {b : Bool} (hr : Rise ks) (hc : Cut ks a n n) (hb : b = true → n < ks.length ∧ gd ks n = a) (hb2 : b = true ↔ a ∈ ks) (hl : ks.length = vs.length) (x : ByteArray × Int) :
    x ∈ putAt (ks.zip vs) n b (a, v) ↔ x = (a, v) ∨ (x.1 ≠ a ∧ x ∈ ks.zip vs) := by
  unfold putAt
  rw [List.mem_append, List.mem_cons]
  constructor
  · rintro (h | h | h)
    · refine .inr ⟨fun e => ?_, List.mem_of_mem_take h⟩
      obtain ⟨j, h1, -, h2⟩ := mem_take_gd (zip_take_key h)
      have := hc.1 j h1
      rw [h2, e] at this
      exact T.blt_irrefl _ this
    · exact .inl h
    · refine .inr ⟨fun e => ?_, List.mem_of_mem_drop h⟩
      obtain ⟨j, h1, h3, h2⟩ := mem_drop_gd (zip_drop_key h)
      have := cut_after hr hc hb hb2 j h1 h3
      rw [h2, e] at this
      exact T.blt_irrefl _ this
  · rintro (h | ⟨h1, h2⟩)
    · exact .inr (.inl h)
    · rw [← List.take_append_drop n (ks.zip vs), List.mem_append] at h2
      rcases h2 with h2 | h2
      · exact .inl h2
      · cases b with
        | false => exact .inr (.inr (by simpa using h2))
        | true =>
          obtain ⟨g1, g2⟩ := hb rfl
          have hz : n < (ks.zip vs).length := by rw [List.length_zip]; omega
          rw [List.drop_eq_getElem_cons hz, List.mem_cons] at h2
          rcases h2 with h2 | h2
          · exfalso
            refine h1 ?_
            rw [h2, List.getElem_zip, ← g2, gd_get g1]
          · exact .inr (.inr (by simpa using h2))
theorem rise_zip {ks : List ByteArray} {vs : List Int} (h : Rise ks) (hl : ks.length = vs.length) : ((ks.zip vs).map ex).Pairwise (fun a b => a.1 < b.1) := by
  have e : ((ks.zip vs).map ex).map Prod.fst = ks.map T.L := by
    rw [List.map_map, show (Prod.fst ∘ ex) = T.L ∘ Prod.fst from rfl, ← List.map_map, List.map_fst_zip (by omega)]
  have h2 := h
  unfold Rise at h2
  rw [← e, List.pairwise_map] at h2
  exact h2
theorem agree_ins {root root' : Nd} {t : Rt} (hg : T.Good root) (hv : IntVals root) (hg' : T.Good root') (hv' : IntVals root') (ht : Rok t) (h : Agree root t) {a : ByteArray} {v : Int} {n : Nat} {b : Bool} {L P : List ByteArray} {ls M : List Int}
    (hn : n ≤ t.ks.length) (hc : Cut t.ks a n n) (hb : b = true → n < t.ks.length ∧ gd t.ks n = a) (hb2 : b = true ↔ a ∈ t.ks) (ho : Rok ⟨putAt t.ks n b a, putAt t.vs n b v, ls, P, M⟩)
    (hf : ∀ r, valT root' r = if r = T.L a then some (.int .i64 v) else valT root r) : Agree root' ⟨putAt t.ks n b a, putAt t.vs n b v, ls, P, M⟩ := by
  unfold Agree at h ⊢
  have h1 : ((All root').map ey).Pairwise (fun a b => a.1 < b.1) := by
    rw [List.pairwise_map]
    exact all_rise hg'
  have h2 := rise_zip ho.rise ho.v.symm
  refine T.sorted_ext (lt := fun a b : Kv => a.1 < b.1) (fun x => T.blt_irrefl _) (fun x y z => T.blt_trans) _ _ h1 h2 (fun x => ?_)
  obtain ⟨q, x⟩ := x
  rw [mem_ey hg' hv', hf]
  dsimp only
  rw [zip_putAt _ _ _ _ _ _ ht.v.symm hn]
  have hz : (q, x) ∈ (putAt (t.ks.zip t.vs) n b (a, v)).map ex ↔ (q = T.L a ∧ x = v) ∨ (q ≠ T.L a ∧ (q, x) ∈ (t.ks.zip t.vs).map ex) := by
    rw [List.mem_map]
    constructor
    · rintro ⟨y, hy, e⟩
      rcases (mem_put ht.rise hc hb hb2 ht.v.symm y).1 hy with rfl | ⟨h3, h4⟩
      · unfold ex at e
        obtain ⟨e1, e2⟩ := Prod.mk.inj e
        exact .inl ⟨e1.symm, e2.symm⟩
      · refine .inr ⟨fun h5 => h3 ?_, ?_⟩
        · unfold ex at e
          exact T.L_inj ((Prod.mk.inj e).1.trans h5)
        · rw [← e]
          exact List.mem_map_of_mem h4
    · rintro (⟨rfl, rfl⟩ | ⟨h3, h4⟩)
      · exact ⟨(a, x), (mem_put ht.rise hc hb hb2 ht.v.symm _).2 (.inl rfl), rfl⟩
      · obtain ⟨y, hy, e⟩ := List.mem_map.1 h4
        refine ⟨y, (mem_put ht.rise hc hb hb2 ht.v.symm y).2 (.inr ⟨fun h5 => h3 ?_, hy⟩), e⟩
        unfold ex at e
        rw [← (Prod.mk.inj e).1, h5]
  rw [hz, ← h, mem_ey hg hv]
  by_cases hq : q = T.L a
  · rw [if_pos hq]
    constructor
    · intro e
      have := Option.some.inj e
      exact .inl ⟨hq, by injection this with _ h9; exact h9.symm⟩
    · rintro (⟨-, rfl⟩ | ⟨h3, -⟩)
      · rfl
      · exact absurd hq h3
  · rw [if_neg hq]
    constructor
    · exact fun e => .inr ⟨hq, e⟩
    · rintro (⟨h3, -⟩ | ⟨-, h3⟩)
      · exact absurd h3 hq
      · exact h3
mutual
theorem ents_pre : ∀ (n : Nd) (p : List UInt8) (x : Ent), x ∈ ents p n → ∃ r, x.1 = p ++ T.L n.label ++ r
  | .mk b label leaf kids mark, p, x, h => by
    rw [ents, List.mem_append] at h
    rcases h with h | h
    · obtain ⟨l, -, rfl⟩ := List.mem_map.1 h
      exact ⟨[], by simp; rfl⟩
    · obtain ⟨r, hr⟩ := entss_pre kids _ x h
      exact ⟨r, hr⟩
theorem entss_pre : ∀ (ks : List Nd) (p : List UInt8) (x : Ent), x ∈ entss p ks → ∃ r, x.1 = p ++ r
  | [], p, x, h => by rw [entss] at h; cases h
  | k :: r, p, x, h => by
    rw [entss, List.mem_append] at h
    rcases h with h | h
    · obtain ⟨t, ht⟩ := ents_pre k p x h
      exact ⟨T.L k.label ++ t, by rw [ht, List.append_assoc]⟩
    · exact entss_pre r p x h
end
section
variable (sk kp : List UInt8 → Bool) (hsk : ∀ q r, sk q = true → kp (q ++ r) = false)
include hsk
mutual
theorem ovr_all : ∀ (n : Nd) (p : ByteArray) (p' : List UInt8), T.L p = p' ++ T.L n.label → (ovr (fun q => sk (T.L q)) (fun q => kp (T.L q)) p n).map ex = ((ents p' n).map ey).filter (fun x => kp x.1)
  | .mk b label leaf kids mark, p, p', h => by
    have h' : T.L p = p' ++ T.L label := h
    rw [ovr]
    by_cases hs : sk (T.L p) = true
    · rw [if_pos hs]
      symm
      rw [List.map_nil, List.filter_eq_nil_iff]
      intro x hx
      obtain ⟨e, he, rfl⟩ := List.mem_map.1 hx
      obtain ⟨r, hr⟩ := ents_pre _ _ _ he
      show ¬ kp e.1 = true
      rw [hr, show p' ++ T.L (Nd.mk b label leaf kids mark).label = T.L p from h'.symm, hsk _ _ hs]
      simp
    · rw [if_neg hs, ents, List.map_append, List.map_append, List.filter_append, ovrs_all kids p _ h']
      congr 1
      cases leaf with
      | none => rfl
      | some l =>
        rw [← h']
        unfold ownE
        by_cases hk : kp (T.L p) = true
        · simp [ey, ex, hk]
        · simp [ey, ex, hk]
theorem ovrs_all : ∀ (ks : List Nd) (p : ByteArray) (p' : List UInt8), T.L p = p' → (ovrs (fun q => sk (T.L q)) (fun q => kp (T.L q)) p ks).map ex = ((entss p' ks).map ey).filter (fun x => kp x.1)
  | [], p, p', h => by rw [ovrs, entss]; rfl
  | k :: r, p, p', h => by
    rw [ovrs, entss, List.map_append, List.map_append, List.filter_append, ovrs_all r p p' h, ovr_all k (p ++ k.label) p' (by rw [T.L_append, h])]
end
end
theorem ovr_eqs {root : Nd} {t : Rt} (hg : T.Good root) (h : Agree root t) (sk kp : List UInt8 → Bool) (hsk : ∀ q r, sk q = true → kp (q ++ r) = false) :
    ovr (fun q => sk (T.L q)) (fun q => kp (T.L q)) ⟨#[]⟩ root = (t.ks.zip t.vs).filter (fun x => kp (T.L x.1)) := by
  have e := ovr_all sk kp hsk root ⟨#[]⟩ [] (by
    have := hg.top
    have : T.L root.label = [] := List.eq_nil_of_length_eq_zero (by rw [T.L_len, this])
    rw [this]; rfl)
  rw [show ents [] root = All root from rfl, h, List.filter_map] at e
  refine (List.map_inj_right (fun x y => ex_inj)).1 (e.trans ?_)
  rfl
end Go.Proofs.Ytjhgknagmiekeaa.N
-- Written by a program of this session (wip/tools/printfam.py) out of the translation; hand-proved contracts set in. Lean checks it.
namespace Go.Proofs.Ytjhgknagmiekeaa.K
open Go.RowKit Go.Proofs.YtjhgknagmiekeaaW.PrintWords Go.Proofs.YtjhgknagmiekeaaW.PrintLast Go.Proofs.YtjhgknagmiekeaaW.PrintMore
attribute [local go_sem] max2_int min2_int max_two min_two max_three min_three max_four min_four   -- for this text's walks alone
set_option linter.unusedVariables false
set_option linter.unusedSimpArgs false
end Go.Proofs.Ytjhgknagmiekeaa.K
-- Written by a program of this session (wip/tools/printfam.py) out of the translation; hand-proved contracts set in. Lean checks it.
namespace Go.Proofs.Ytjhgknagmiekeaa.K
open Go.RowKit Go.Proofs.YtjhgknagmiekeaaW.PrintWords Go.Proofs.YtjhgknagmiekeaaW.PrintLast Go.Proofs.YtjhgknagmiekeaaW.PrintMore
attribute [local go_sem] max2_int min2_int max_two min_two max_three min_three max_four min_four   -- for this text's walks alone
set_option linter.unusedVariables false
set_option linter.unusedSimpArgs false
end Go.Proofs.Ytjhgknagmiekeaa.K
-- Written by a program of this session (wip/tools/printfam.py) out of the translation; hand-proved contracts set in. Lean checks it.
namespace Go.Proofs.Ytjhgknagmiekeaa.K
open Go.RowKit Go.Proofs.YtjhgknagmiekeaaW.PrintWords Go.Proofs.YtjhgknagmiekeaaW.PrintLast Go.Proofs.YtjhgknagmiekeaaW.PrintMore
attribute [local go_sem] max2_int min2_int max_two min_two max_three min_three max_four min_four   -- for this text's walks alone
set_option linter.unusedVariables false
set_option linter.unusedSimpArgs false
end Go.Proofs.Ytjhgknagmiekeaa.K
set_option linter.unusedVariables false
set_option linter.unusedSimpArgs false
namespace Go.Proofs.Ytjhgknagmiekeaa.N
open Go.RowKit Go.Proofs.Ytjhgknagmiekeaa.K Go.Proofs.YtjhgknagmiekeaaW.PrintWords Go.Proofs.YtjhgknagmiekeaaW.PrintLast
open Go.Proofs.Ytjhgknagmiekeaa.T (Nd All valT findT IntVals Fine Tr)
def SlS (w : World) (v : Value) (xs : List ByteArray) : Prop := ∃ A c, v = .slice A xs.length c ∧ xs.length ≤ c ∧ Kd.C Kd.string w A xs.length xs
def SlI (w : World) (v : Value) (xs : List Int) : Prop := ∃ A c, v = .slice A xs.length c ∧ xs.length ≤ c ∧ Kd.C (Kd.int .i64) w A xs.length xs
theorem SlS.below {w w' : World} {v : Value} {xs : List ByteArray} (h : SlS w v xs) (hb : Below w.heap.size w w') : SlS w' v xs := by
  obtain ⟨A, c, h1, h2, h3⟩ := h
  exact ⟨A, c, h1, h2, Kd.C_below h3 hb⟩
theorem SlI.below {w w' : World} {v : Value} {xs : List Int} (h : SlI w v xs) (hb : Below w.heap.size w w') : SlI w' v xs := by
  obtain ⟨A, c, h1, h2, h3⟩ := h
  exact ⟨A, c, h1, h2, Kd.C_below h3 hb⟩
structure RtAt (w : World) (t : Rt) (v0 v1 v2 v3 v4 : Value) : Prop where
  a0 : SlS w v0 t.ks
  a1 : SlI w v1 t.vs
  a2 : SlI w v2 t.ls
  a3 : SlS w v3 t.ps
  a4 : SlI w v4 t.ms
theorem RtAt.below {w w' : World} {t : Rt} {v0 v1 v2 v3 v4 : Value} (h : RtAt w t v0 v1 v2 v3 v4) (hb : Below w.heap.size w w') : RtAt w' t v0 v1 v2 v3 v4 := ⟨h.a0.below hb, h.a1.below hb, h.a2.below hb, h.a3.below hb, h.a4.below hb⟩
theorem SlS.form {w : World} {v : Value} {xs : List ByteArray} (h : SlS w v xs) : ∃ A n c, v = .slice A n c := by
  obtain ⟨A, c, h1, -⟩ := h
  exact ⟨A, _, c, h1⟩
theorem SlI.form {w : World} {v : Value} {xs : List Int} (h : SlI w v xs) : ∃ A n c, v = .slice A n c := by
  obtain ⟨A, c, h1, -⟩ := h
  exact ⟨A, _, c, h1⟩
theorem RtAt.forms {w : World} {t : Rt} {v0 v1 v2 v3 v4 : Value} (h : RtAt w t v0 v1 v2 v3 v4) : (∃ A n c, v0 = .slice A n c) ∧ (∃ A n c, v1 = .slice A n c) ∧ (∃ A n c, v2 = .slice A n c) ∧ (∃ A n c, v3 = .slice A n c) ∧ (∃ A n c, v4 = .slice A n c) := ⟨h.a0.form, h.a1.form, h.a2.form, h.a3.form, h.a4.form⟩
def rt0 : Rt := ⟨[], [], [], [⟨#[]⟩], [0]⟩
theorem rok0 : Rok rt0 := by
  refine ⟨rfl, rfl, rfl, by decide, fun k h => (by cases h), fun k h => ?_, List.Pairwise.nil⟩
  have e : k = ⟨#[]⟩ := List.mem_singleton.1 h
  rw [e]
  decide
def Rob (B : Nat) (w w2 : World) : Prop := ∀ k, B ≤ k → k < w.heap.size → w2.heap[k]? = w.heap[k]?
theorem R_rob {α : Type} {d : Kd α} {e B : Nat} {w w2 : World} {ok : Nat → Prop} {v : Value} {xs : List α} (h : d.R e w B ok v xs) (hr : Rob B w w2) : d.R e w2 B ok v xs :=
  Kd.R_mono (Kd.R_move (Kd.R_bound h) (fun k hk => hr k hk.2.1 hk.2.2.1)) (fun _ hk => hk.1)
theorem newRtC (w : World) : Calls Try.prog 51 #[.int .i64 0] w fun e w' => ∃ v0 v1 v2 v3 v4, e = .returned (.tuple #[.agg #[v0, v1, v2, v3, v4], .int .i64 1]) ∧ (∀ w2, Rob w.heap.size w' w2 → RtAt w2 rt0 v0 v1 v2 v3 v4) ∧ Below w.heap.size w w' := by
  refine (musterref03_New.calls 0 [] [] [] [⟨#[]⟩] [0] 1 w (by unfold musterref03_New.f; rw [show wrap64 (0 + 1) = 1 from by unfold wrap64; omega])).mono ?_
  rintro e w' ⟨v0, v1, v2, v3, v4, rfl, h0, h1, h2, h3, h4, hb⟩
  exact ⟨v0, v1, v2, v3, v4, rfl, fun w2 hr => ⟨Kd.R_reads (R_rob h0 hr), Kd.R_reads (R_rob h1 hr), Kd.R_reads (R_rob h2 hr), Kd.R_reads (R_rob h3 hr), Kd.R_reads (R_rob h4 hr)⟩, hb⟩
def InsRt (t t' : Rt) (a : ByteArray) (v : Int) : Prop := ∀ root root' : Nd, Fine root → IntVals root → Fine root' → IntVals root' → Agree root t → (∀ r, valT root' r = if r = T.L a then some (.int .i64 v) else valT root r) → Agree root' t'
end Go.Proofs.Ytjhgknagmiekeaa.N
