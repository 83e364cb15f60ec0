/- joined: H13 D5 D6 D7 H14 H6 H8 -/
import Derived.Test.YtjhgknagmiekeaaGreatJR7
import Derived.Test.YtjhgknagmiekeaaGreatJR10
import Derived.Shelf.SlSortCmp.WholeK
import Derived.Shelf.SlLaysF0
import Derived.Shelf.SlGeneric
import Derived.Ground.SlsfProg
import Derived.Test.YtjhgknagmiekeaaGreatProg
import Derived.Test.YtjhgknagmiekeaaGreatJR9
import Derived.Sort.OwnSorted
import Derived.Test.YtjhgknagmiekeaaGreatRows
import Derived.Deep.Slices
import Derived.Deep.Fields
import Derived.ChangeSame
import Derived.SizedLaws
import Derived.ProofKit
set_option linter.unusedVariables false
set_option linter.unusedSimpArgs false
namespace Go.Proofs.YtjhgknagmiekeaaGreat.G
open Go.RowKit Go.Lib Go.Proofs Go.Conc
open Go.Proofs.YtjhgknagmiekeaaGreatW.PrintWords hiding Kept
open Go.Proofs.YtjhgknagmiekeaaGreat.T (Nd Ok Tr L L_len ptr All valT nodeT findT markN watchN seekN)
def FreshL (w : World) (root : Nd) : Prop := ∀ r l, findT root r = some l → ∃ c, l.mark = ptr (c + 1) ∧ WatchAt w (c + 1) c false
structure HOwn (B : Nat) (w : World) (b : Nat) (root : Nd) (n : Int) : Prop where
  own : Own B w b root n
  lone : Lone root
  fresh : FreshL w root
theorem HOwn.belowG {B : Nat} {w w' : World} {b : Nat} {root : Nd} {n : Int} (h : HOwn B w b root n) (hb : Below w.heap.size w w') : HOwn B w' b root n :=
  ⟨h.own.belowG hb, h.lone, fun r l hr => by obtain ⟨c, h1, h2⟩ := h.fresh r l hr; exact ⟨c, h1, watch_below h2 hb⟩⟩
theorem HOwn.new {B : Nat} {w : World} {b : Nat} {root : Nd} {n : Int} (h : Own B w b root n) (hv : ∀ r, valT root r = none) : HOwn B w b root n := by
  have hf : ∀ r, findT root r = none := fun r => by
    have := hv r
    unfold valT at this
    cases e : findT root r with
    | none => rfl
    | some l => rw [e] at this; cases this
  exact ⟨h, ⟨fun r l q X h1 => (by rw [hf] at h1; cases h1), fun r r' l l' h1 => (by rw [hf] at h1; cases h1)⟩, fun r l h1 => (by rw [hf] at h1; cases h1)⟩
structure Heard1 (w w' : World) (cur cur' : Nd) (cs : List Chg) (W : World) (ks : List ByteArray) : Prop where
  trk : Trk cur cur' (ks.map L)
  keys : ∀ k ∈ ks, ∃ c ∈ cs, L k = L c.key
  shut : ∀ c d, WatchAt w (c + 1) c d → WatchAt w' (c + 1) c (d || (fireAll W cur ks).1 c)
theorem fires_no {W : World} {root : Nd} {x : Nat} {ks : List ByteArray} (h : (fireAll W root ks).1 x = false) : ∀ q ∈ ks, (fireAll W root [q]).1 x = false := fun q hq => by
  cases e : (fireAll W root [q]).1 x with
  | false => rfl
  | true => rw [(fires W root x ks).2 ⟨q, hq, e⟩] at h; cases h
theorem leaf_spare {w : World} {root : Nd} (hg : T.Good root) (hM : Mks w root) (hL : Lone root) (W : World) {r : List UInt8} {l : T.Lf} {c : Nat} (hl : findT root r = some l) (hm : l.mark = ptr (c + 1)) {ks : List ByteArray} (hn : r ∉ ks.map L) : (fireAll W root ks).1 c = false := by
  cases e : (fireAll W root ks).1 c with
  | false => rfl
  | true =>
    exfalso
    obtain ⟨q, hq, e⟩ := (fires W root c ks).1 e
    have := spare_leaf hg hM hL W (k := ⟨r.toArray⟩) (o := q) (c := c) ⟨l, hl, hm⟩ (fun e2 => hn (List.mem_map.2 ⟨q, hq, e2⟩))
    rw [this] at e
    cases e
theorem FreshL.step {w w' W : World} {cur cur' : Nd} {cs : List Chg} {ks : List ByteArray} (h : FreshL w cur) (hg : T.Good cur) (hM : Mks w cur) (hL : Lone cur) (h1 : Heard1 w w' cur cur' cs W ks) (hN : NewL w w' cur' (ks.map L)) : FreshL w' cur' := fun r l hr => by
  by_cases hk : r ∈ ks.map L
  · obtain ⟨c, a, _, b⟩ := hN r l hk hr
    exact ⟨c, a, b⟩
  · rw [h1.trk.leaf r hk] at hr
    obtain ⟨c, a, b⟩ := h r l hr
    have h2 := h1.shut c false b
    rw [leaf_spare hg hM hL W hr a hk] at h2
    exact ⟨c, a, h2⟩
structure HeardI (w : World) (root cur : Nd) (p k : ByteArray) (there : Bool) (cu co : Nat) (du dd tch : Bool) : Prop where
  wu : WatchAt w (cu + 1) cu du
  wo : WatchAt w (co + 1) co dd
  under : du = false → On cur p cu ∧ ∀ r, L p <+: r → findT cur r = findT root r
  own : dd = false → (there = true ∧ (∃ l, findT cur (L k) = some l ∧ l.mark = ptr (co + 1)) ∨ there = false ∧ On cur k co) ∧ findT cur (L k) = findT root (L k)
  tch : there = true → dd = true → tch = true
theorem HeardI.below {w w' : World} {root cur : Nd} {p k : ByteArray} {there : Bool} {cu co : Nat} {du dd tch : Bool} (h : HeardI w root cur p k there cu co du dd tch) (hb : Below w.heap.size w w') : HeardI w' root cur p k there cu co du dd tch :=
  ⟨watch_below h.wu hb, watch_below h.wo hb, h.under, h.own, h.tch⟩
theorem heard_start {B : Nat} {w : World} {b : Nat} {root : Nd} {n : Int} (H : HOwn B w b root n) (hg : T.Good root) (p k : ByteArray) :
    ∃ cu co du dd, markN root p = ptr (cu + 1) ∧ watchN root k = ptr (co + 1) ∧ HeardI w root root p k ((findT root (L k)).isSome) cu co du dd false := by
  obtain ⟨j, hj, X, hX, eX⟩ := mark_on hg p
  obtain ⟨cu, du, e1, w1⟩ := H.own.mkd _ (node_mk hg.ok hX)
  have es := T.seek_eq hg k
  unfold watchN
  rw [es]
  cases hl : findT root (L k) with
  | some l =>
    obtain ⟨co, e2, w2⟩ := H.fresh _ l hl
    exact ⟨cu, co, du, false, by rw [← eX, e1], e2, w1, w2, fun _ => ⟨⟨j, hj, X, hX, e1⟩, fun _ _ => rfl⟩, fun _ => ⟨.inl ⟨rfl, l, hl, e2⟩, rfl⟩, fun _ h => by cases h⟩
  | none =>
    obtain ⟨i, hi, Y, hY, eY⟩ := mark_on hg k
    obtain ⟨co, dd, e2, w2⟩ := H.own.mkd _ (node_mk hg.ok hY)
    exact ⟨cu, co, du, dd, by rw [← eX, e1], by show markN root k = _; rw [← eY, e2], w1, w2, fun _ => ⟨⟨j, hj, X, hX, e1⟩, fun _ _ => rfl⟩, fun _ => ⟨.inr ⟨rfl, i, hi, Y, hY, e2⟩, rfl⟩, fun h => by cases h⟩
theorem on_step {w w' W : World} {cur cur' : Nd} {cs : List Chg} {ks : List ByteArray} (hg : T.Good cur) (h1 : Heard1 w w' cur cur' cs W ks) {p : ByteArray} {c : Nat} (hOn : On cur p c) (hn : (fireAll W cur ks).1 c = false) : On cur' p c ∧ ∀ q ∈ ks, ¬ L p <+: L q := by
  have hno := fires_no hn
  refine ⟨?_, fun q hq hp => by have := shut_on hg W hOn hp; rw [hno q hq] at this; cases this⟩
  obtain ⟨j, hj, X, hX, e⟩ := hOn
  obtain ⟨X', h2, h3⟩ := h1.trk.keep _ X hX (fun t ht hp => by
    obtain ⟨q, hq, rfl⟩ := List.mem_map.1 ht
    have h5 : (fireAll W cur [q]).1 c = true := (fire_key hg W q c).2 (.inl ⟨((L p).take j).length, by have := hp.length_le; rw [L_len] at this; exact this, X, by rw [← List.prefix_iff_eq_take.1 hp]; exact hX, by rw [e]; rfl⟩)
    rw [hno q hq] at h5
    cases h5)
  exact ⟨j, hj, X', h2, h3.trans e⟩
theorem HeardI.step {w w' W : World} {root cur cur' : Nd} {p k : ByteArray} {there : Bool} {cu co : Nat} {du dd tch tch' : Bool} {cs : List Chg} {ks : List ByteArray} (h : HeardI w root cur p k there cu co du dd tch) (hg : T.Good cur) (hM : Mks w cur) (hL : Lone cur) (h1 : Heard1 w w' cur cur' cs W ks)
    (ht : tch = true → tch' = true) (hc : ∀ c ∈ cs, L c.key = L k → tch' = true) : ∃ du' dd', HeardI w' root cur' p k there cu co du' dd' tch' := by
  refine ⟨_, _, h1.shut _ _ h.wu, h1.shut _ _ h.wo, fun e => ?_, fun e => ?_, fun e1 e2 => ?_⟩
  · rw [Bool.or_eq_false_iff] at e
    obtain ⟨h2, h3⟩ := h.under e.1
    obtain ⟨h4, h5⟩ := on_step hg h1 h2 e.2
    refine ⟨h4, fun r hr => (h1.trk.leaf r (fun hm => ?_)).trans (h3 r hr)⟩
    obtain ⟨q, hq, rfl⟩ := List.mem_map.1 hm
    exact h5 q hq hr
  · rw [Bool.or_eq_false_iff] at e
    obtain ⟨h2, h3⟩ := h.own e.1
    rcases h2 with ⟨e2, l, h4, h5⟩ | ⟨e2, h4⟩
    · have hm : L k ∉ ks.map L := fun hm => by
        obtain ⟨q, hq, e3⟩ := List.mem_map.1 hm
        have h6 := shut_leaf hg W (k := k) (c := co) ⟨l, h4, h5⟩
        rw [← L_inj e3, fires_no e.2 q hq] at h6
        cases h6
      have h6 := h1.trk.leaf _ hm
      exact ⟨.inl ⟨e2, l, by rw [h6]; exact h4, h5⟩, h6.trans h3⟩
    · obtain ⟨h5, h6⟩ := on_step hg h1 h4 e.2
      refine ⟨.inr ⟨e2, h5⟩, (h1.trk.leaf _ (fun hm => ?_)).trans h3⟩
      obtain ⟨q, hq, e3⟩ := List.mem_map.1 hm
      exact h6 q hq (by rw [e3]; exact List.prefix_refl _)
  · cases hd : dd with
    | true => exact ht (h.tch e1 hd)
    | false =>
      rw [hd, Bool.false_or] at e2
      obtain ⟨h2, h3⟩ := h.own hd
      rcases h2 with ⟨_, l, h4, h5⟩ | ⟨e3, h4⟩
      · by_cases hm : L k ∈ ks.map L
        · obtain ⟨q, hq, e4⟩ := List.mem_map.1 hm
          obtain ⟨c, hc1, hc2⟩ := h1.keys q hq
          exact hc c hc1 (hc2.symm.trans e4)
        · rw [leaf_spare hg hM hL W h4 h5 hm] at e2
          cases e2
      · rw [e1] at e3; cases e3
theorem HeardI.seen {w : World} {root cur : Nd} {p k : ByteArray} {there : Bool} {cu co : Nat} {du dd tch : Bool} (h : HeardI w root cur p k there cu co du dd tch) {r : List UInt8} (hr : valT root r ≠ valT cur r) : (L p <+: r → du = true) ∧ (r = L k → dd = true) := by
  refine ⟨fun hp => ?_, fun e => ?_⟩
  · cases hd : du with
    | true => rfl
    | false =>
      have := (h.under hd).2 r hp
      unfold valT at hr
      rw [this] at hr
      exact absurd rfl hr
  · cases hd : dd with
    | true => rfl
    | false =>
      have := (h.own hd).2
      unfold valT at hr
      rw [e, this] at hr
      exact absurd rfl hr
theorem doneHeard (B : Nat) (w : World) (hB : B ≤ w.heap.size) (b : Nat) (n : Int) (root : Nd) (h : HOwn B w b root n) (A : Option Addr) (c : Nat) (cs : List Chg)
    (hR : ∀ W, FarP tAll w W → Below B w W → ChAt W A cs) (hk : ∀ c ∈ cs, c.key.size < 4000000000000) (hlen : cs.length < 1000000000) (hs : (All root).length + cs.length < 3999999999999) (hn0 : 0 ≤ n) (hn1 : n < 1000000000000) :
    Calls Tryz.prog 10 #[ptr b, .slice A cs.length c, .bool true] w fun e w' => e = .returned (.bool true) ∧ ∃ root' n', HOwn B w' b root' n' ∧ 0 ≤ n' ∧ n' ≤ n + 1 ∧ (All root').length ≤ (All root).length + cs.length ∧ Below B w w' ∧ FarP tAll w w' ∧ ∃ W ks, Heard1 w w' root root' cs W ks := by
  obtain ⟨v, tb, h1, h2⟩ := h.own.base
  refine (doneW w b v tb n root h1 h2 h.own.mkd h.lone A c cs (fun W h3 h4 => hR W h3 (h4 B hB h.own.low.1)) hk hlen hs hn0 hn1).mono ?_
  rintro e w' ⟨rfl, root', n', ha, hl, hv, hn, hlo, W, ks, ht, hks, hnew, hsh⟩
  have hh : Heard1 w w' root root' cs W ks := ⟨ht, hks, hsh⟩
  have hn' : n' = n ∨ n' = n + 1 := by rw [hn]; unfold nOf; split; exact .inr rfl; exact .inl rfl
  exact ⟨rfl, root', n', ⟨(h.own.after hB ha).1, hlo, h.fresh.step h2.fine.toGood h.own.mkd h.lone hh hnew⟩, by omega, by omega, hl, (h.own.after hB ha).2, ha.far, W, ks, hh⟩
end Go.Proofs.YtjhgknagmiekeaaGreat.G
namespace Go.Proofs
open Go.Shelf
def Tryz.sortChange_ren : Go.Shelf.Ren := ⟨fun | 6 => 63 | 15 => 97 | 14 => 96 | 28 => 132 | 29 => 133 | 20 => 124 | 21 => 125 | 22 => 126 | 23 => 127 | 24 => 128 | 25 => 129 | 26 => 130 | 27 => 131 | 46 => 145 | 47 => 146 | 48 => 147 | 49 => 148 | 50 => 149 | 57 => 166 | n => n, fun | 22 => 74 | 24 => 83 | 25 => 140 | 3 => 3 | 39 => 186 | 0 => 0 | 53 => 93 | 55 => 27 | 4 => 4 | 46 => 208 | 45 => 207 | 50 => 42 | 5 => 5 | 9 => 9 | 66 => 221 | 70 => 224 | 76 => 237 | 77 => 238 | n => n, fun | n => n⟩
theorem Tryz.sortChange : Go.Proofs.SlLaysF0.n6 Tryz.prog Tryz.sortChange_ren := {
  mixed := by kernel_rfl
  f6 := ⟨Tryz.f63.name, by decide, Tryz.func63.trans (congrArg some (by kernel_rfl))⟩
  f14 := ⟨Tryz.f96.name, by decide, Tryz.func96.trans (congrArg some (by kernel_rfl))⟩
  f15 := Tryz.func97.trans (congrArg some (by kernel_rfl))
  f20 := ⟨Tryz.f124.name, by decide, Tryz.func124.trans (congrArg some (by kernel_rfl))⟩
  f21 := ⟨Tryz.f125.name, by decide, Tryz.func125.trans (congrArg some (by kernel_rfl))⟩
  f22 := ⟨Tryz.f126.name, by decide, Tryz.func126.trans (congrArg some (by kernel_rfl))⟩
  f23 := ⟨Tryz.f127.name, by decide, Tryz.func127.trans (congrArg some (by kernel_rfl))⟩
  f24 := ⟨Tryz.f128.name, by decide, Tryz.func128.trans (congrArg some (by kernel_rfl))⟩
  f25 := ⟨Tryz.f129.name, by decide, Tryz.func129.trans (congrArg some (by kernel_rfl))⟩
  f26 := ⟨Tryz.f130.name, by decide, Tryz.func130.trans (congrArg some (by kernel_rfl))⟩
  f27 := ⟨Tryz.f131.name, by decide, Tryz.func131.trans (congrArg some (by kernel_rfl))⟩
  f28 := Tryz.func132.trans (congrArg some (by kernel_rfl))
  f29 := Tryz.func133.trans (congrArg some (by kernel_rfl))
  f46 := ⟨Tryz.f145.name, by decide, Tryz.func145.trans (congrArg some (by kernel_rfl))⟩
  f47 := Tryz.func146.trans (congrArg some (by kernel_rfl))
  f48 := Tryz.func147.trans (congrArg some (by kernel_rfl))
  f49 := ⟨Tryz.f148.name, by decide, Tryz.func148.trans (congrArg some (by kernel_rfl))⟩
  f50 := ⟨Tryz.f149.name, by decide, Tryz.func149.trans (congrArg some (by kernel_rfl))⟩
  f57 := ⟨Tryz.f166.name, by decide, Tryz.func166.trans (congrArg some (by kernel_rfl))⟩
  t0 := Tryz.underlying0
  a0 := Tryz.isAgg0
  z0 := Tryz.sizeOf0
  v0 := Tryz.zeroValue0
  t3 := Tryz.underlying3
  a3 := Tryz.isAgg3
  z3 := Tryz.sizeOf3
  v3 := Tryz.zeroValue3
  t4 := Tryz.underlying4
  a4 := Tryz.isAgg4
  z4 := Tryz.sizeOf4
  v4 := Tryz.zeroValue4
  t5 := Tryz.underlying5
  a5 := Tryz.isAgg5
  z5 := Tryz.sizeOf5
  v5 := Tryz.zeroValue5
  t9 := Tryz.underlying9
  a9 := Tryz.isAgg9
  z9 := Tryz.sizeOf9
  v9 := Tryz.zeroValue9
  t22 := Tryz.underlying74
  a22 := Tryz.isAgg74
  z22 := Tryz.sizeOf74
  v22 := Tryz.zeroValue74
  t25 := Tryz.underlying140
  a25 := Tryz.isAgg140
  z25 := Tryz.sizeOf140
  v25 := Tryz.zeroValue140
  t39 := Tryz.underlying186
  a39 := Tryz.isAgg186
  z39 := Tryz.sizeOf186
  v39 := Tryz.zeroValue186
  t45 := Tryz.underlying207
  a45 := Tryz.isAgg207
  z45 := Tryz.sizeOf207
  v45 := Tryz.zeroValue207
  t46 := Tryz.underlying208
  a46 := Tryz.isAgg208
  z46 := Tryz.sizeOf208
  v46 := Tryz.zeroValue208
  t50 := Tryz.underlying42
  a50 := Tryz.isAgg42
  z50 := Tryz.sizeOf42
  v50 := Tryz.zeroValue42
  t53 := Tryz.underlying93
  a53 := Tryz.isAgg93
  z53 := Tryz.sizeOf93
  v53 := Tryz.zeroValue93
  t55 := Tryz.underlying27
  a55 := Tryz.isAgg27
  z55 := Tryz.sizeOf27
  v55 := Tryz.zeroValue27
  t66 := Tryz.underlying221
  a66 := Tryz.isAgg221
  z66 := Tryz.sizeOf221
  v66 := Tryz.zeroValue221
  t70 := Tryz.underlying224
  a70 := Tryz.isAgg224
  z70 := Tryz.sizeOf224
  v70 := Tryz.zeroValue224
  t76 := Tryz.underlying237
  a76 := Tryz.isAgg237
  z76 := Tryz.sizeOf237
  v76 := Tryz.zeroValue237
  t77 := Tryz.underlying238
  a77 := Tryz.isAgg238
  z77 := Tryz.sizeOf238
  v77 := Tryz.zeroValue238 }
end Go.Proofs
set_option linter.unusedVariables false
set_option linter.unusedSimpArgs false
namespace Go.Proofs.YtjhgknagmiekeaaGreat.D
open Go.RowKit Go.Lib Go.Proofs Go.Sort Go.Shelf
open Go.Proofs.YtjhgknagmiekeaaGreatW.PrintWords hiding Kept
theorem cmp_lt : ∀ a b : List UInt8, Lib.compareBytes a b < 0 ↔ a < b
  | [], [] => by simp [Lib.compareBytes]
  | [], _ :: _ => by simp [Lib.compareBytes]
  | _ :: _, [] => by simp [Lib.compareBytes]
  | x :: a, y :: b => by
    have ih := cmp_lt a b
    unfold Lib.compareBytes
    rw [List.cons_lt_cons_iff]
    by_cases h1 : x < y
    · simp [h1]
    · by_cases h2 : y < x
      · have hne : x ≠ y := fun e => by subst e; exact absurd h2 h1
        simp [h1, h2, hne]
      · have e : x = y := UInt8.le_antisymm (UInt8.not_lt.1 h2) (UInt8.not_lt.1 h1)
        subst e
        simp [h1, ih]
def encC (x : ByteArray × Int) : List Value := [.string x.1, .int .i64 x.2]
def cfC (x y : ByteArray × Int) : Int := Lib.compareBytes x.1.data.toList y.1.data.toList
theorem ltC (x y : ByteArray × Int) : ltOf cfC x y = decide (x.1.data.toList < y.1.data.toList) := by
  unfold ltOf cfC
  rw [decide_eq_decide]
  exact cmp_lt _ _
theorem swoC : SWO (ltOf cfC) where
  irrefl x := by rw [ltC]; simp [List.lt_irrefl]
  trans x y z h1 h2 := by
    rw [ltC] at *
    simp only [decide_eq_true_eq] at *
    exact List.lt_trans h1 h2
  ntrans x y z h1 h2 := by
    rw [ltC] at *
    simp only [decide_eq_false_iff_not] at *
    exact List.le_trans (l₁ := z.1.data.toList) (l₂ := y.1.data.toList) (l₃ := x.1.data.toList) h2 h1
set_option maxRecDepth 100000 in
set_option maxHeartbeats 1600000 in
theorem closure64 (x y : ByteArray × Int) (W : World) : Calls Tryz.prog 64 #[.agg #[.string x.1, .int .i64 x.2], .agg #[.string y.1, .int .i64 y.2]] W fun e w' => e = .returned (.int .i64 (cfC x y)) ∧ ∃ q os', w' = grow (W.drewN q) os' := by
  have hcon := fun W' => Tryz.strings_Compare x.1 y.1 W'
  unfold cfC
  generalize Lib.compareBytes x.1.data.toList y.1.data.toList = r at hcon ⊢
  go_enter Tryz.func64, Tryz.ntmps64
  go_wp2_with (go_at_call 65; refine (hcon _).mono ?_; rintro e w' ⟨rfl, rfl⟩)
  go_ret
  exact ⟨rfl, 0, _, by rw [alloc_eq_grow, alloc_eq_grow, grow_grow]; rfl⟩
theorem cmpLays64 (blk off size : Nat) (w : World) : CmpLays Tryz.prog 64 #[] encC 2 cfC blk off size w :=
  fun _ _ _ _ x y => closure64 x y _
theorem holds_flat {w : World} {g : Nat} {cur : Array Value} {e : TypeId} {F : Array Value} (hb : w.heap[g]? = some (.cells cur e (0, 0))) (ht : cur.toList.take F.size = F.toList) : Holds id w g 0 F := by
  intro j hj
  refine ⟨?_, by simp [World.frozen?, hb]⟩
  have h1 : (cur.toList.take F.size)[j]? = F.toList[j]? := by rw [ht]
  rw [List.getElem?_take_of_lt hj] at h1
  simp only [World.cell?, hb, Nat.zero_add]
  simp only [Option.isSome_none, Bool.false_eq_true, if_false]
  rw [← Array.getElem?_toList, h1]
  simp [hj]
theorem heap_flat {w : World} {g n : Nat} {os : Array Obj} {cur : Array Value} {e : TypeId} {fr : Nat × Nat} (d : Array Value) (hb : w.heap[g]? = some (.cells cur e fr)) :
    (grow (putRow id (Sort.ahead w n) g 0 d) os).heap[g]? = some (.cells (putCells id 0 d cur) e fr) := by
  have hg : g < w.heap.size := (Array.getElem?_eq_some_iff.1 hb).1
  rw [heap_grow_old _ _ (by simpa using hg)]
  simp [putRow, mapBlock, Sort.ahead, Array.getElem?_modify, hb, onCells]
theorem grownBy_flat {w : World} {g n : Nat} {os : Array Obj} (d : Array Value) : w.grownBy (grow (putRow id (Sort.ahead w n) g 0 d) os) (some g) := by
  refine ⟨rfl, rfl, rfl, by simp, fun k hk hne => ?_⟩
  rw [heap_grow_old _ _ (by simpa using hk)]
  have : g ≠ k := fun e => hne (by rw [e])
  simp [putRow, mapBlock, Sort.ahead, Array.getElem?_modify, this]
theorem take_flat (cur : Array Value) (F : Array Value) (h : F.size ≤ cur.size) : (putCells id 0 F cur).toList.take F.size = F.toList := by
  apply List.ext_getElem?
  intro j
  by_cases hj : j < F.size
  · rw [List.getElem?_take_of_lt hj, Array.getElem?_toList]
    simp [putCells, hj, show j < cur.size by omega]
  · rw [List.getElem?_take_eq_none (by omega), List.getElem?_eq_none (by simp; omega)]
def rowh (l : List (ByteArray × Int)) : List Value := l.flatMap encC
theorem rowh_len (l : List (ByteArray × Int)) : (rowh l).length = l.length * 2 := by
  induction l with
  | nil => rfl
  | cons x l ih => rw [show rowh (x :: l) = .string x.1 :: .int .i64 x.2 :: rowh l from rfl, List.length_cons, List.length_cons, ih, List.length_cons]; omega
theorem rowh_get : ∀ (l : List (ByteArray × Int)) (i : Nat) (h : i < l.length), (rowh l)[i * 2]? = some (.string l[i].1) ∧ (rowh l)[i * 2 + 1]? = some (.int .i64 l[i].2)
  | x :: l, 0, h => ⟨rfl, rfl⟩
  | x :: l, i + 1, h => by
    have ih := rowh_get l i (by simpa using h)
    have e : rowh (x :: l) = .string x.1 :: .int .i64 x.2 :: rowh l := rfl
    rw [e, show (i + 1) * 2 = i * 2 + 1 + 1 from by omega]
    exact ih
theorem flat_list (l : List (ByteArray × Int)) : (flatK encC 2 l.toArray).toList = rowh l := by
  apply List.ext_getElem?
  intro j
  have hsz : (flatK encC 2 l.toArray).size = l.length * 2 := by simp
  by_cases hj : j < l.length * 2
  · have hd : j / 2 < l.length := by omega
    obtain ⟨h0, h1⟩ := rowh_get l (j / 2) hd
    have hget := get_flatK encC 2 l.toArray j (by simpa using hj)
    rw [Array.getElem?_toList, Array.getElem?_eq_getElem (by rw [hsz]; exact hj)]
    rw [getElem!_pos _ j (by rw [hsz]; exact hj)] at hget
    rw [hget]
    have e2 : l.toArray[j / 2]! = l[j / 2] := by simp [hd]
    rw [e2]
    rcases Nat.mod_two_eq_zero_or_one j with hm | hm
    · rw [hm]
      have e3 : j / 2 * 2 = j := by omega
      rw [e3] at h0
      rw [h0]; rfl
    · rw [hm]
      have e3 : j / 2 * 2 + 1 = j := by omega
      rw [e3] at h1
      rw [h1]; rfl
  · rw [List.getElem?_eq_none (by rw [Array.length_toList, hsz]; omega), List.getElem?_eq_none (by rw [rowh_len]; omega)]
theorem sortOwn (w : World) (B : Nat) (v : Value) (l : List (ByteArray × Int)) (h : w.ownsRow B 83 2 v l.length (rowh l)) (hl : l.length < 4611686018427387904) :
    Calls Tryz.prog 63 #[v, .func (.func 64) #[] #[]] w fun e w' => e = .returned (.tuple #[]) ∧ ∃ l' : List (ByteArray × Int), l'.Perm l ∧ SortedIn (ltOf cfC) 0 l'.length l'.toArray ∧ w'.ownsRow B 83 2 v l'.length (rowh l') ∧ w.grownBy w' v.ownBlock := by
  rcases id h.2 with ⟨rfl, h0⟩ | ⟨g, cap, cur, rfl, hb, hg, hnc, hcm, hcs, ht⟩
  · refine (sortNone _ w).mono ?_
    rintro e w' ⟨rfl, rfl⟩
    have hl0 : l = [] := List.length_eq_zero_iff.1 h0
    subst hl0
    exact ⟨rfl, [], List.Perm.refl _, fun i j _ _ hj => by simp at hj, h, World.grownBy.refl _ _⟩
  · have eg : ∀ args w, (callFunc 64 args).run Tryz.prog w = .ok (.enter 64 args) w := enters_of Tryz.func64 (by kernel_rfl) rfl
    have hlt : g < w.heap.size := (Array.getElem?_eq_some_iff.1 hg).1
    have hH : HoldsK encC 2 w g 0 l.toArray := by
      refine holds_flat hg ?_
      rw [flat_list]
      have : (flatK encC 2 l.toArray).size = l.length * 2 := by simp
      rw [this]
      exact ht
    have hcon := AnyQ.slices_SortFunc Tryz.sortChange 2 Tryz.isAgg83 Tryz.sizeOf83 encC (fun _ => rfl) (fun x v hv => by simp [encC] at hv; rcases hv with rfl | rfl <;> rfl) cfC swoC 64 #[] g 0 cap l.toArray w eg (cmpLays64 g 0 _ w) hH hlt (by simpa using hl)
    have esz : l.toArray.size = l.length := by simp
    rw [esz] at hcon
    change Calls Tryz.prog 63 _ _ _ at hcon
    refine hcon.mono ?_
    rintro e w' ⟨rfl, d', n, os, hp, hs, rfl⟩
    have hsz : d'.size = l.length := by have := hp.1; simpa using this
    have hlen : d'.toList.length = l.length := by rw [Array.length_toList, hsz]
    refine ⟨rfl, d'.toList, ?_, ?_, ?_, grownBy_flat _⟩
    · have h3 := hp.2.2
      simpa [Array.extract_eq_self_of_le, hsz] using h3
    · rw [hlen]
      simpa using hs
    · rw [hlen]
      have hfl : (flatK encC 2 d').toList = rowh d'.toList := by have := flat_list d'.toList; simpa using this
      refine ⟨by rw [rowh_len, hlen], .inr ⟨g, cap, _, rfl, hb, heap_flat _ hg, hnc, hcm, by simp [putCells, hcs], ?_⟩⟩
      have h4 : (flatK encC 2 d').size = l.length * 2 := by simp [hsz]
      have h5 := take_flat cur (flatK encC 2 d') (by rw [h4, hcs]; exact Nat.mul_le_mul_right _ hnc)
      rw [h4, hfl] at h5
      exact h5
end Go.Proofs.YtjhgknagmiekeaaGreat.D
set_option linter.unusedVariables false
set_option linter.unusedSimpArgs false
namespace Go.Proofs.YtjhgknagmiekeaaGreat.D
open Go.RowKit Go.Lib Go.Proofs Go.Sort Go.Shelf
open Go.Proofs.YtjhgknagmiekeaaGreat.T Go.Proofs.YtjhgknagmiekeaaGreat.V Go.Proofs.YtjhgknagmiekeaaGreat.N
open Go.Proofs.YtjhgknagmiekeaaGreatW.PrintWords hiding blk_cell Kept own_move
attribute [local go_sem] Oper.semAt_some
theorem info83 : (Tryz.prog.info? 83).map (fun i => (i.zero, i.size, i.bytes)) = some (some (.agg #[.string ⟨#[]⟩, .int .i64 0]), 2, 24) := by kernel_rfl
theorem rowh_snoc (l : List (ByteArray × Int)) (x : ByteArray × Int) : rowh (l ++ [x]) = rowh l ++ [.string x.1, .int .i64 x.2] := by simp [rowh, encC]
theorem cell_two_new (w : World) (x y : Value) (t : TypeId) : ∀ j u, [x, y][j]? = some u → (w.alloc (.cells #[x, y] t)).cell? ((⟨w.heap.size, 0, none⟩ : Addr).add j) = some u := by
  intro j u hj
  have h := World.alloc_heap_new w (.cells #[x, y] t)
  match j, hj with
  | 0, hj => cases hj; show World.cell? _ ⟨_, 0, none⟩ = _; rw [blk_cell h]; rfl
  | 1, hj => cases hj; show World.cell? _ ⟨_, 1, none⟩ = _; rw [blk_cell h]; rfl
  | j + 2, hj => cases hj
theorem row_below {w w' : World} {base : Nat} {e : TypeId} {size n : Nat} {v : Value} {xs : List Value} (h : w.ownsRow base e size v n xs) (hb : Below w.heap.size w w') : w'.ownsRow base e size v n xs :=
  own_move h (fun k hk => by
    obtain ⟨cs, hc⟩ := own_typed h k hk
    exact hb.block k (Array.getElem?_eq_some_iff.1 hc).1)
theorem box_below {w w' : World} {b : Nat} {t : TypeId} {v : Value} (h : Boxed w b t v) (hb : Below w.heap.size w w') : Boxed w' b t v :=
  (hb.block b (Array.getElem?_eq_some_iff.1 h).1).trans h
theorem appendedM {W w1 : World} {n₁ N B : Nat} {t e : TypeId} {size : Nat} {v v' : Value} {k m : Nat} {xs ys : List Value} {tmp : Obj} {M : Nat → Prop} (ht : t ≠ 161) (he : e ≠ 161)
    (hv : Boxed W B t v) (hrow : W.ownsRow n₁ e size v k xs) (hown' : w1.ownsRow n₁ e size v' m ys) (hgrow : (W.alloc tmp).grownBy w1 v.ownBlock) (hM : M B) (hMr : ∀ j, j < N → n₁ ≤ j → (∃ cs, W.heap[j]? = some (.cells cs e (0, 0))) → M j) :
    KpM N M W (w1.setCell ⟨B, 0, none⟩ v') := by
  have hF := appendedF hv hrow hown' hgrow
  refine ⟨?_, fun j o h h1 h2 => ?_, fun j cs fr h => ?_⟩
  · have h1 := hgrow.size
    have h2 := (grownBy_setCell' w1 B v').size
    rw [World.size_alloc] at h1
    omega
  · refine (hF j (Array.getElem?_eq_some_iff.1 h).1 (fun e9 => h2 (by rw [e9]; exact hM)) (fun e9 => ?_)).trans h
    exact h2 (hMr j h1 (own_base hrow j e9.symm) (own_typed hrow j e9.symm))
  · refine (hF j (Array.getElem?_eq_some_iff.1 h).1 (fun e9 => ?_) (fun e9 => ?_)).trans h
    · subst e9
      rw [show W.heap[j]? = _ from hv] at h
      injection h with h1
      injection h1 with _ h2 _
      exact ht h2
    · obtain ⟨cs', hc⟩ := own_typed hrow j e9.symm
      rw [hc] at h
      injection h with h1
      injection h1 with _ h2 _
      exact he h2
theorem ownT_oldM {β : Type} (W0 : World) (M : Nat → Prop) : OwnT W0.heap.size (fun (_ : β) W => ∀ k, k < W0.heap.size → ¬ M k → W.heap[k]? = W0.heap[k]?) := fun s X Y row hs hg hr k h1 h2 => by
  have h3 := hs k h1 h2
  have h4 : W0.heap[k]? = some W0.heap[k] := Array.getElem?_eq_getElem h1
  rw [h4] at h3 ⊢
  exact keep_old hg (fun r e => (hr r e).1) h1 h3
theorem leaves_cells {F : Fence} {n : Nat} {P : Program} {fn : Func} {tmps : Array Value} {R : Ending → World → Prop} {b : Nat} : ∀ (ds : List Nat) (W : World), b ≤ W.heap.size → (∀ D ∈ ds, W.heap[D]? = some (.deferred (some []))) → ds.Nodup → (∀ D ∈ ds, b ≤ D) →
    (∀ W', Below b W W' → (∀ (k : Nat) (cs : Array Value) (t : TypeId) (fr : Nat × Nat), W.heap[k]? = some (Obj.cells cs t fr) → W'.heap[k]? = some (Obj.cells cs t fr)) → LeavesIn F n P fn tmps R [] .returning W') → LeavesInM F n P fn tmps R (ds.map mk_) .returning W
  | [], W, hW, _, _, _, h => h W (Below.refl _ _) (fun _ _ _ _ h => h)
  | D :: ds, W, hW, h1, h2, h3, h => by
    have hD := h1 D (by simp)
    have hb : Below b W (W.putObj D (.deferred none)) := (Below.refl b W).grown (grownBy_putObj' W D _) hW (fun k e => by cases e; exact h3 D (by simp))
    refine ⟨by simp, .inl ⟨D, _, rfl, run_takeDeferred hD, ?_⟩⟩
    refine leaves_cells ds _ (Nat.le_trans hW hb.size) (fun D' hD' => ?_) (List.nodup_cons.1 h2).2 (fun D' hD' => h3 D' (by simp [hD'])) (fun W' hW' hc' => h W' (hb.trans hW') (fun k cs t fr hk => hc' k cs t fr ?_))
    · have hne : D' ≠ D := fun e => (List.nodup_cons.1 h2).1 (by rw [← e]; exact hD')
      exact (World.putObj_heap_other hne).trans (h1 D' (by simp [hD']))
    · have hne : k ≠ D := fun e => by subst e; rw [hD] at hk; cases hk
      exact (World.putObj_heap_other hne).trans hk
def stepA (rb : Nd) (x : ByteArray × Int) : List (ByteArray × Int) := match valT rb (L x.1) with
  | none => [(x.1, 2)]
  | some v => if valI v = x.2 then [] else [(x.1, 3)]
def stepB (ra : Nd) (x : ByteArray × Int) : List (ByteArray × Int) := match valT ra (L x.1) with
  | none => [(x.1, 1)]
  | some _ => []
def chA (rb : Nd) (l : List (ByteArray × Int)) : List (ByteArray × Int) := l.flatMap (stepA rb)
def chB (ra : Nd) (l : List (ByteArray × Int)) : List (ByteArray × Int) := l.flatMap (stepB ra)
theorem chA_snoc (rb : Nd) (l : List (ByteArray × Int)) (x : ByteArray × Int) : chA rb (l ++ [x]) = chA rb l ++ stepA rb x := by simp [chA]
theorem chB_snoc (rb : Nd) (l : List (ByteArray × Int)) (x : ByteArray × Int) : chB rb (l ++ [x]) = chB rb l ++ stepB rb x := by simp [chB]
theorem stepA_len (rb : Nd) (x : ByteArray × Int) : (stepA rb x).length ≤ 1 := by
  unfold stepA
  split
  · simp
  · split <;> simp
theorem stepB_len (rb : Nd) (x : ByteArray × Int) : (stepB rb x).length ≤ 1 := by
  unfold stepB
  split <;> simp
theorem chA_len (rb : Nd) : ∀ l, (chA rb l).length ≤ l.length
  | [] => Nat.le_refl _
  | x :: l => by
    have h1 := stepA_len rb x
    have h2 := chA_len rb l
    rw [show chA rb (x :: l) = stepA rb x ++ chA rb l from rfl, List.length_append, List.length_cons]
    omega
theorem chB_len (rb : Nd) : ∀ l, (chB rb l).length ≤ l.length
  | [] => Nat.le_refl _
  | x :: l => by
    have h1 := stepB_len rb x
    have h2 := chB_len rb l
    rw [show chB rb (x :: l) = stepB rb x ++ chB rb l from rfl, List.length_append, List.length_cons]
    omega
def walkL (r : Nd) : List (ByteArray × Int) := ovr (fun _ => false) (fun _ => true) ⟨#[]⟩ r
def diffL (ra rb : Nd) : List (ByteArray × Int) := chA rb (walkL ra) ++ chB ra (walkL rb)
theorem diff_mem {ra rb : Nd} (ha : T.Good ra) (hva : IntVals ra) (hb : T.Good rb) (hvb : IntVals rb) {x : ByteArray × Int} (h : x ∈ diffL ra rb) : valT ra (L x.1) ≠ valT rb (L x.1) := by
  rcases List.mem_append.1 h with h | h
  · obtain ⟨y, hy, h⟩ := List.mem_flatMap.1 h
    have e := ovr_val ha hva hy
    unfold stepA at h
    split at h
    · rename_i e2
      rw [List.mem_singleton.1 h]
      dsimp only
      rw [e, e2]
      simp
    · rename_i v e2
      split at h
      · cases h
      · rename_i hne
        rw [List.mem_singleton.1 h]
        dsimp only
        rw [e, e2]
        intro e3
        cases e3
        exact hne rfl
  · obtain ⟨y, hy, h⟩ := List.mem_flatMap.1 h
    have e := ovr_val hb hvb hy
    unfold stepB at h
    split at h
    · rename_i e2
      rw [List.mem_singleton.1 h]
      dsimp only
      rw [e, e2]
      simp
    · cases h
set_option maxRecDepth 100000 in
set_option maxHeartbeats 8000000 in
theorem diffC (ta tb : Nat) (ra rb : Nd) (w : World) (ht : Tr w ta ra) (hu : Tr w tb rb) (hsm : ∀ r, valT ra r ≠ none ∨ valT rb r ≠ none → r.length < 4000000000000) (hfew : (All ra).length + (All rb).length < 4000000000000) :
    Calls Tryz.prog 28 #[ptr ta, ptr tb] w fun e w' => ∃ v, e = .returned v ∧ (∃ l : List (ByteArray × Int), l.Perm (diffL ra rb) ∧ SortedIn (ltOf cfC) 0 l.length l.toArray ∧ w'.ownsRow w.heap.size 83 2 v l.length (rowh l)) ∧ Below w.heap.size w w' := by
  refine callsIn_wide.1 (show CallsIn Fence.wide 9 Tryz.prog 28 _ w _ from ?_)
  have qf := Aside0.mk (fun t w1 => show CallsIn Fence.wide 8 Tryz.prog 13 _ w1 _ from callsIn_wide.2 (allC t w1))
  have H1 := Aside0.mk (And.intro ht hu)
  have HS := Aside0.mk hsm
  have HN := Aside0.mk hfew
  have hla : (walkL ra).length = (All ra).length := ovr_len ht.fine.toGood
  have hlb : (walkL rb).length = (All rb).length := ovr_len hu.fine.toGood
  have HL := Aside0.mk (And.intro hla hlb)
  clear ht hu hsm hfew hla hlb
  unfold ptr at qf ⊢
  refine callsIn_of_wp_marks Tryz.func28 rfl trivial ?_ rfl
  simp only [Tryz.ntmps28, List.size_toArray, List.length_cons, List.length_nil, Nat.reduceAdd, Nat.reduceSub, Array.replicate_succ, Array.replicate_zero, List.push_toArray, List.append_toArray, List.nil_append, List.cons_append]
  gi_wp2_with (refine ⟨trivial, ?_⟩; gi_at_call 13; refine (qf.out _ _).mono ?_; rintro e w2 ⟨bt, bs, bk, rfl, h1, h2, h3, h4⟩; have H2 := Aside0.mk (And.intro h1 (And.intro h2 (And.intro h3 h4))); clear h1 h2 h3 h4)
  obtain ⟨h1, h2, h3, h4⟩ := H2.out
  have hsz : (((w.alloc (.cells #[.pointer (some ⟨ta, 0, none⟩)] 36)).alloc (.cells #[.pointer (some ⟨tb, 0, none⟩)] 36)).alloc (.cells #[.slice none 0 0] 74)).heap.size = w.heap.size + 3 := by simp
  rw [hsz] at h4
  have hsz2 := h4.size
  rw [hsz] at hsz2
  have bB : w2.heap[w.heap.size + 1]? = some (.cells #[.pointer (some ⟨tb, 0, none⟩)] 36 (0, 0)) := by
    refine (h4.block _ (by omega)).trans ((Below.heap_alloc _ _ _ (by simp)).trans ?_)
    have := World.alloc_heap_new (w.alloc (.cells #[.pointer (some ⟨ta, 0, none⟩)] 36)) (.cells #[.pointer (some ⟨tb, 0, none⟩)] 36)
    rwa [World.size_alloc] at this
  have bA : w2.heap[w.heap.size]? = some (.cells #[.pointer (some ⟨ta, 0, none⟩)] 36 (0, 0)) := by
    refine (h4.block _ (by omega)).trans ((Below.heap_alloc _ _ _ (by simp; omega)).trans ((Below.heap_alloc _ _ _ (by simp)).trans ?_))
    exact World.alloc_heap_new w _
  have bO : Boxed w2 (w.heap.size + 1 + 1) 74 (.slice none 0 0) := by
    refine (h4.block _ (by omega)).trans ?_
    have := World.alloc_heap_new ((w.alloc (.cells #[.pointer (some ⟨ta, 0, none⟩)] 36)).alloc (.cells #[.pointer (some ⟨tb, 0, none⟩)] 36)) (.cells #[.slice none 0 0] 74)
    rwa [World.size_alloc, World.size_alloc] at this
  have hw2 : Below w.heap.size w w2 := (((Below.refl _ w).alloc (Nat.le_refl _) _).alloc (by simp) _).alloc (by simp; omega) _ |>.trans (h4.mono (by omega))
  clear hsz h4
  obtain ⟨i0, hi0, hz0, hz1, hz2⟩ := info_parts info83
  have hml : 4000000000001 ≤ maxLen := by decide
  refine wpIn_rangeFuncO rfl (by decide) (gf := 72) (lb := #[ptr bt, ptr bs, ptr bk]) rfl trivial (enters_of Tryz.func72 (by kernel_rfl) rfl)
    (VOA.seq w2 8 (ovr (fun _ => false) (fun _ => true) ⟨#[]⟩ ra).length w2.heap.size (fun k => k = w.heap.size + 1 + 1) w (Kept.of hw2) (by omega) (Nat.le_refl _) (fun k hk e => by omega) ta ra H1.out.1 bt bs bk ⟨h1, h2, h3⟩ (Nat.le_refl _))
    (fun h k => kpT h k) (fun W o o' h hc => KpM.putObj W _ o o' (by omega) h hc) (Below.refl _ _) (fun _ => rfl)
    (fun (pre : List (ByteArray × Int)) W => (∃ v, Boxed W (w.heap.size + 1 + 1) 74 v ∧ W.ownsRow w2.heap.size 83 2 v (chA rb pre).length (rowh (chA rb pre))) ∧ (∀ k, k < w2.heap.size → ¬ (k = w.heap.size + 1 + 1) → W.heap[k]? = w2.heap[k]?) ∧ Below w.heap.size w W ∧ w2.heap.size ≤ W.heap.size)
    (fun _ _ _ => False) ?hI (fun _ _ _ _ _ hs _ _ => hs) ⟨⟨_, bO, World.ownsRow_nil _ _ _ _⟩, fun _ _ _ => rfl, hw2, Nat.le_refl _⟩ (fun (x : ByteArray × Int) a' (Z : World) => a' = { tmps := #[.pointer (some ⟨ta, 0, none⟩), .pointer (some ⟨tb, 0, none⟩), .pointer (some ⟨w.heap.size, 0, none⟩), .pointer (some ⟨w.heap.size + 1, 0, none⟩), .slice none 0 0, .pointer (some ⟨w.heap.size + 1 + 1, 0, none⟩), .string x.1, .int .i64 x.2, undef, undef, undef, undef, undef, .pointer (some ⟨ta, 0, none⟩), .func (.func 72) #[] #[.pointer (some ⟨bt, 0, none⟩), .pointer (some ⟨bs, 0, none⟩), .pointer (some ⟨bk, 0, none⟩)], .string x.1, .int .i64 x.2, undef, undef, undef, undef, undef, undef, undef, undef, undef, undef, undef, undef, undef, undef, undef, undef, undef, undef, undef, undef, undef, undef, undef, undef, undef, undef, undef, undef, undef, undef, undef, undef, undef, undef, undef, undef, undef, undef, undef, undef, undef], defers := [] }) (fun x a' => ?hAx) ?assign ?body ?done ?stop
  case hI =>
    exact OwnT.and (fun s X Y row hs hg hr => (ownT_all (β := Unit) (B := w2.heap.size) (fun v => OwnT.and (ownT_old (w.heap.size + 1 + 1) (fun _ => .cells #[v] 74 (0, 0)) (by omega)) (ownT_row w2.heap.size 83 2 (by decide) v (chA rb s).length (rowh (chA rb s))))) () X Y row hs hg hr) (OwnT.and (ownT_oldM w2 _) (OwnT.and (ownT_below (Nat.le_refl _) (by omega)) (ownT_size _)))
  case hAx => exact fun _ _ _ _ hs _ _ => hs
  case assign =>
    intro l' m' pre x Wa' K hI hok hK
    gi_wp2
    exact hK _ _ (KeepsU.refl _ _) (KpM.of (Below.refl _ _)) hI rfl
  case body =>
    rintro l' m' pre x a' W hl' hr0 hszW ⟨⟨v, hv, hrow⟩, hold, hB, hW⟩ rfl hlt hok
    have hx := ovr_val H1.out.1.fine.toGood H1.out.1.vals (hok.subset (List.mem_append_right _ (List.mem_singleton.2 rfl)))
    have hks : x.1.size < 4000000000000 := by have := HS.out (L x.1) (.inl (by rw [hx]; simp)); rwa [L_len] at this
    have q := getC W tb rb (H1.out.2.keep (Kept.of hB)) x.1 hks
    have hvr : ∀ v, valT rb (L x.1) = some v → ∃ y, v = .int .i64 y := fun v hv => by
      unfold valT at hv
      obtain ⟨l, hl, rfl⟩ := Option.map_eq_some_iff.1 hv
      exact H1.out.2.vals _ _ hl
    have hln : (chA rb pre).length < 4000000000000 := by
      have := chA_len rb pre
      have h8 := hok.length_le
      rw [List.length_append] at h8
      have h9 : (ovr (fun _ => false) (fun _ => true) ⟨#[]⟩ ra).length = (All ra).length := HL.out.1
      have := HN.out
      omega
    have y0 : W.cell? ⟨w.heap.size + 1, 0, none⟩ = some (.pointer (some ⟨tb, 0, none⟩)) := by rw [blk_cell ((hold _ (by omega) (by omega)).trans bB)]; rfl
    have HE := Aside0.mk (And.intro hold (And.intro hB (And.intro hW (And.intro hv hrow))))
    rcases hval : valT rb (L x.1) with _ | vv
    · rw [hval] at q
      have hsA := Aside0.mk (show stepA rb x = [(x.1, 2)] from by unfold stepA; rw [hval])
      have Q := Aside0.mk (show Calls Tryz.prog 15 #[.pointer (some ⟨tb, 0, none⟩), .string x.1] W fun e w' => e = .returned (.tuple #[.int .i64 0, .bool false]) ∧ Below W.heap.size W w' from q)
      clear q hx hks hvr hval hold hB hW hv hrow
      gi_wp2_with (refine ⟨trivial, (fun h => by cases h), ?_⟩; gi_at_call 15; refine (CallsIn.inRound l' (callsIn_wide.2 Q.out)).mono ?_; rintro e W3 ⟨rfl, hb3⟩; have HB3 := Aside0.mk hb3; clear hb3; refine Hid.out ?_)
      refine Lib.hid ?_
      have HR3 : Aside0 (Boxed W3 (w.heap.size + 1 + 1) 74 v ∧ W3.ownsRow w2.heap.size 83 2 v (chA rb pre).length (rowh (chA rb pre))) := ⟨box_below HE.out.2.2.2.1 HB3.out, row_below HE.out.2.2.2.2 HB3.out⟩
      have hW3 : w2.heap.size ≤ W3.heap.size := Nat.le_trans HE.out.2.2.1 HB3.out.size
      have hc := HR3.out.1.cell
      clear y0
      gi_wp2_with (gi_at_builtin; refine wpListIn_append_own _ rfl _ _ 74 rfl w2.heap.size 83 i0 (.agg #[.string ⟨#[]⟩, .int .i64 0]) 2 24 Tryz.underlying74 hi0 hz0 hz1 hz2 rfl (by decide) _ _ _ rfl (HR3.out.2.alloc _) ⟨W3.heap.size, 0, none⟩ 1 1 [.string x.1, .int .i64 2] rfl rfl (cell_two_new _ _ _ _) (by simp [Value.oneCell']) (by omega) (by omega) (by simp; omega) ?_; intro v' w1' hown' hgrow _; obtain ⟨g', cap', rfl⟩ := ownsRow_succ hown'; obtain ⟨hv1, hv2, hr2, hk2, hb2, hkp, hlow⟩ := appended2 (n₀ := w.heap.size) (M := fun k => k = w.heap.size + 1 + 1) HR3.out.1 (by decide) (by decide) (by decide) HR3.out.2 (by omega) (by omega) (by omega) rfl hown' hgrow;  have hku := appendedU (B' := w2.heap.size) (by unfold Quiet; decide) (by omega) HR3.out.1 HR3.out.2 hown' hgrow; have hc1 := hv1.cell; have hf1 := hv1.frozen)
      have hb3 := HB3.out
      refine ⟨(KeepsU.of hb3).trans hku, (KpM.of hb3).trans hkp, ⟨_, hv2, ?_⟩, fun k hk1 hk2 => ?_, (belowAt HE.out.2.1 hb3).trans hb2, Nat.le_trans hW3 hb2.size⟩
      · rw [chA_snoc, hsA.out, List.length_append, rowh_snoc]; exact hr2
      · exact (hlow k hk1 hk2).trans ((hb3.block k (by have := HE.out.2.2.1; omega)).trans (HE.out.1 k hk1 hk2))
    · obtain ⟨y, rfl⟩ := hvr _ hval
      rw [hval] at q
      have Q := Aside0.mk (show Calls Tryz.prog 15 #[.pointer (some ⟨tb, 0, none⟩), .string x.1] W fun e w' => e = .returned (.tuple #[.int .i64 y, .bool true]) ∧ Below W.heap.size W w' from q)
      by_cases hxy : y = x.2
      · subst hxy
        have hsA := Aside0.mk (show stepA rb x = [] from by unfold stepA; rw [hval]; exact if_pos rfl)
        clear q hx hks hvr hval hold hB hW hv hrow
        gi_wp2_with (refine ⟨trivial, (fun h => by cases h), ?_⟩; gi_at_call 15; refine (CallsIn.inRound l' (callsIn_wide.2 Q.out)).mono ?_; rintro e W3 ⟨rfl, hb3⟩; have HB3 := Aside0.mk hb3; clear hb3; refine Hid.out ?_)
        refine Lib.hid ?_
        gi_wp2_with fail
        have hb3 := HB3.out
        refine ⟨KeepsU.of hb3, KpM.of hb3, ⟨_, box_below HE.out.2.2.2.1 hb3, ?_⟩, fun k hk1 hk2 => ?_, belowAt HE.out.2.1 hb3, Nat.le_trans HE.out.2.2.1 hb3.size⟩
        · rw [chA_snoc, hsA.out, List.append_nil]; exact row_below HE.out.2.2.2.2 hb3
        · exact (hb3.block k (by have := HE.out.2.2.1; omega)).trans (HE.out.1 k hk1 hk2)
      · have hsA := Aside0.mk (show stepA rb x = [(x.1, 3)] from by unfold stepA; rw [hval]; exact if_neg hxy)
        have hxy1 : (x.2 == y) = false := by simpa using fun e => hxy e.symm
        have hxy2 : ¬ x.2 = y := fun e => hxy e.symm
        clear q hx hks hvr hval hold hB hW hv hrow
        gi_wp2_with (refine ⟨trivial, (fun h => by cases h), ?_⟩; gi_at_call 15; refine (CallsIn.inRound l' (callsIn_wide.2 Q.out)).mono ?_; rintro e W3 ⟨rfl, hb3⟩; have HB3 := Aside0.mk hb3; clear hb3; refine Hid.out ?_)
        refine Lib.hid ?_
        have HR3 : Aside0 (Boxed W3 (w.heap.size + 1 + 1) 74 v ∧ W3.ownsRow w2.heap.size 83 2 v (chA rb pre).length (rowh (chA rb pre))) := ⟨box_below HE.out.2.2.2.1 HB3.out, row_below HE.out.2.2.2.2 HB3.out⟩
        have hW3 : w2.heap.size ≤ W3.heap.size := Nat.le_trans HE.out.2.2.1 HB3.out.size
        have hc := HR3.out.1.cell
        clear y0
        gi_wp2_with (gi_at_builtin; refine wpListIn_append_own _ rfl _ _ 74 rfl w2.heap.size 83 i0 (.agg #[.string ⟨#[]⟩, .int .i64 0]) 2 24 Tryz.underlying74 hi0 hz0 hz1 hz2 rfl (by decide) _ _ _ rfl (HR3.out.2.alloc _) ⟨W3.heap.size, 0, none⟩ 1 1 [.string x.1, .int .i64 3] rfl rfl (cell_two_new _ _ _ _) (by simp [Value.oneCell']) (by omega) (by omega) (by simp; omega) ?_; intro v' w1' hown' hgrow _; obtain ⟨g', cap', rfl⟩ := ownsRow_succ hown'; obtain ⟨hv1, hv2, hr2, hk2, hb2, hkp, hlow⟩ := appended2 (n₀ := w.heap.size) (M := fun k => k = w.heap.size + 1 + 1) HR3.out.1 (by decide) (by decide) (by decide) HR3.out.2 (by omega) (by omega) (by omega) rfl hown' hgrow;  have hku := appendedU (B' := w2.heap.size) (by unfold Quiet; decide) (by omega) HR3.out.1 HR3.out.2 hown' hgrow; have hc1 := hv1.cell; have hf1 := hv1.frozen)
        have hb3 := HB3.out
        refine ⟨(KeepsU.of hb3).trans hku, (KpM.of hb3).trans hkp, ⟨_, hv2, ?_⟩, fun k hk1 hk2 => ?_, (belowAt HE.out.2.1 hb3).trans hb2, Nat.le_trans hW3 hb2.size⟩
        · rw [chA_snoc, hsA.out, List.length_append, rowh_snoc]; exact hr2
        · exact (hlow k hk1 hk2).trans ((hb3.block k (by have := HE.out.2.2.1; omega)).trans (HE.out.1 k hk1 hk2))
  case stop =>
    rintro D cd pre W _ _ h _
    exact h.elim
  case done =>
    rintro D1 ys W1 hD1 e9 ⟨⟨v1, hv1, hrow1⟩, hold1, hB1, hW1⟩ hK1
    have y1 : W1.cell? ⟨w.heap.size + 1, 0, none⟩ = some (.pointer (some ⟨tb, 0, none⟩)) := by rw [blk_cell ((hold1 _ (by omega) (by omega)).trans bB)]; rfl
    have HE := Aside0.mk (And.intro hv1 (And.intro hrow1 (And.intro hold1 (And.intro hB1 (And.intro hW1 (And.intro hK1 (And.intro hD1 e9)))))))
    clear hv1 hrow1 hold1 hB1 hW1 hK1 e9 h1 h2 h3
    gi_wp2_with (refine ⟨trivial, ?_⟩; gi_at_call 13; refine (qf.out tb W1).mono ?_; rintro e w3 ⟨bt2, bs2, bk2, rfl, h1, h2, h3, h4⟩; have H3 := Aside0.mk (And.intro h1 (And.intro h2 (And.intro h3 h4))); clear h1 h2 h3 h4)
    obtain ⟨h1, h2, h3, h4⟩ := H3.out
    obtain ⟨hv1, hrow1, hold1, hB1, hW1, hK1, hD1, e9⟩ := HE.out
    have hsz3 := h4.size
    have hvw := box_below hv1 h4
    have hroww := row_below hrow1 h4
    have cD : w3.heap[D1]? = some (.deferred (some [])) := (h4.block _ (Array.getElem?_eq_some_iff.1 hK1).1).trans hK1
    have cA : w3.heap[w.heap.size]? = some (.cells #[.pointer (some ⟨ta, 0, none⟩)] 36 (0, 0)) := (h4.block _ (by omega)).trans ((hold1 _ (by omega) (by omega)).trans bA)
    have hw3 : Below w.heap.size w w3 := belowAt hB1 h4
    have hlD := (Array.getElem?_eq_some_iff.1 cD).1
    obtain ⟨zs, hzs⟩ : ∃ zs, chA rb ys = zs := ⟨_, rfl⟩
    have hzl : zs.length ≤ (All ra).length := by
      rw [← hzs, e9]
      have := chA_len rb (ovr (fun _ => false) (fun _ => true) ⟨#[]⟩ ra)
      have h9 : (ovr (fun _ => false) (fun _ => true) ⟨#[]⟩ ra).length = (All ra).length := HL.out.1
      omega
    rw [hzs] at hroww
    clear h4 hv1 hrow1 hold1 hB1
    obtain ⟨M3, hM3⟩ : ∃ M : Nat → Prop, M = fun k => k = (w.heap.size + 1 + 1) ∨ (w2.heap.size ≤ k ∧ ∃ cs, w3.heap[k]? = some (.cells cs 83 (0, 0))) := ⟨_, rfl⟩
    have m1 : ∀ k, k < w2.heap.size → k ≠ (w.heap.size + 1 + 1) → ¬ M3 k := by
      intro k h1 h2 h3
      rw [hM3] at h3
      rcases h3 with h3 | h3
      · omega
      · omega
    have m2 : M3 (w.heap.size + 1 + 1) := by rw [hM3]; exact .inl rfl
    have m3 : ∀ (k : Nat) (o : Obj), w3.heap[k]? = some o → k ≠ (w.heap.size + 1 + 1) → (∀ cs, o ≠ .cells cs 83 (0, 0)) → ¬ M3 k := by
      intro k o h1 h2 h3
      rw [hM3]
      rintro (h | ⟨-, cs, h⟩)
      · exact h2 h
      · rw [h1] at h
        exact h3 cs (Option.some.inj h)
    have m4 : ∀ W : World, (∀ k, k < w3.heap.size → ¬ M3 k → W.heap[k]? = w3.heap[k]?) → ∀ j, j < w3.heap.size → w2.heap.size ≤ j → (∃ cs, W.heap[j]? = some (.cells cs 83 (0, 0))) → M3 j := by
      rintro W h j h1 h2 ⟨cs, h3⟩
      by_cases hm : M3 j
      · exact hm
      · rw [hM3]
        exact .inr ⟨h2, cs, by rw [← h j h1 hm]; exact h3⟩
    have HM3 := Aside0.mk hM3
    clear hM3
    refine wpIn_rangeFuncO rfl (by decide) (gf := 72) (lb := #[ptr bt2, ptr bs2, ptr bk2]) rfl trivial (enters_of Tryz.func72 (by kernel_rfl) rfl)
      (VOA.seq w3 8 (ovr (fun _ => false) (fun _ => true) ⟨#[]⟩ rb).length w3.heap.size M3 w (Kept.of hw3) hw3.size (Nat.le_refl _) (fun k hk => m1 k (by omega) (by omega)) tb rb H1.out.2 bt2 bs2 bk2 ⟨h1, h2, h3⟩ (Nat.le_refl _))
      (fun h k => kpT h k) (fun W o o' h hc => KpM.putObj W _ o o' (by omega) h hc) (Below.refl _ _) (fun _ => rfl)
      (fun (pre : List (ByteArray × Int)) W => (∃ v, Boxed W (w.heap.size + 1 + 1) 74 v ∧ W.ownsRow w2.heap.size 83 2 v (zs ++ chB ra pre).length (rowh (zs ++ chB ra pre))) ∧ (∀ k, k < w3.heap.size → ¬ M3 k → W.heap[k]? = w3.heap[k]?) ∧ Below w.heap.size w W ∧ w3.heap.size ≤ W.heap.size)
      (fun _ _ _ => False) ?hI2 (fun _ _ _ _ _ hs _ _ => hs) ⟨⟨_, hvw, by rw [show chB ra [] = [] from rfl, List.append_nil]; exact hroww⟩, fun _ _ _ => rfl, hw3, Nat.le_refl _⟩ (fun (x : ByteArray × Int) a' (Z : World) => a' = { tmps := #[.pointer (some ⟨ta, 0, none⟩), .pointer (some ⟨tb, 0, none⟩), .pointer (some ⟨w.heap.size, 0, none⟩), .pointer (some ⟨w.heap.size + 1, 0, none⟩), .slice none 0 0, .pointer (some ⟨w.heap.size + 1 + 1, 0, none⟩), undef, undef, undef, undef, .string x.1, undef, undef, .pointer (some ⟨ta, 0, none⟩), .func (.func 72) #[] #[.pointer (some ⟨bt, 0, none⟩), .pointer (some ⟨bs, 0, none⟩), .pointer (some ⟨bk, 0, none⟩)], undef, undef, undef, undef, undef, undef, undef, undef, undef, undef, undef, undef, undef, undef, undef, undef, undef, undef, undef, undef, undef, undef, undef, .pointer (some ⟨tb, 0, none⟩), .func (.func 72) #[] #[.pointer (some ⟨bt2, 0, none⟩), .pointer (some ⟨bs2, 0, none⟩), .pointer (some ⟨bk2, 0, none⟩)], .string x.1, .int .i64 x.2, undef, undef, undef, undef, undef, undef, undef, undef, undef, undef, undef, undef, undef, undef, undef, undef], defers := [] }) (fun x a' => ?hAx2) ?assign2 ?body2 ?done2 ?stop2
    case hI2 =>
      exact OwnT.and (fun s X Y row hs hg hr => (ownT_all (β := Unit) (B := w3.heap.size) (fun v => OwnT.and (ownT_old (w.heap.size + 1 + 1) (fun _ => .cells #[v] 74 (0, 0)) (by omega)) (ownT_row w2.heap.size 83 2 (by decide) v (zs ++ chB ra s).length (rowh (zs ++ chB ra s))))) () X Y row hs hg hr) (OwnT.and (ownT_oldM w3 _) (OwnT.and (ownT_below (Nat.le_refl _) hw3.size) (ownT_size _)))
    case hAx2 => exact fun _ _ _ _ hs _ _ => hs
    case assign2 =>
      intro l' m' pre x Wa' K hI hok hK
      gi_wp2
      exact hK _ _ (KeepsU.refl _ _) (KpM.of (Below.refl _ _)) hI rfl
    case body2 =>
      rintro l' m' pre x a' W hl' hr0 hszW ⟨⟨v, hv, hrow⟩, hold, hB, hW⟩ rfl hlt hok
      have hx := ovr_val H1.out.2.fine.toGood H1.out.2.vals (hok.subset (List.mem_append_right _ (List.mem_singleton.2 rfl)))
      have hks : x.1.size < 4000000000000 := by have := HS.out (L x.1) (.inr (by rw [hx]; simp)); rwa [L_len] at this
      have q := getC W ta ra (H1.out.1.keep (Kept.of hB)) x.1 hks
      have hvr : ∀ v, valT ra (L x.1) = some v → ∃ y, v = .int .i64 y := fun v hv => by
        unfold valT at hv
        obtain ⟨l, hl, rfl⟩ := Option.map_eq_some_iff.1 hv
        exact H1.out.1.vals _ _ hl
      obtain ⟨q0, hq0⟩ : ∃ q0, zs ++ chB ra pre = q0 := ⟨_, rfl⟩
      have hln : q0.length < 4000000000000 := by
        have := chB_len ra pre
        have h8 := hok.length_le
        rw [List.length_append] at h8
        have h9 : (ovr (fun _ => false) (fun _ => true) ⟨#[]⟩ rb).length = (All rb).length := HL.out.2
        have := HN.out
        rw [← hq0, List.length_append]
        simp only [List.length_singleton] at h8
        omega
      rw [hq0] at hrow
      have y0 : W.cell? ⟨w.heap.size, 0, none⟩ = some (.pointer (some ⟨ta, 0, none⟩)) := by rw [blk_cell ((hold _ (by omega) (m1 _ (by omega) (by omega))).trans cA)]; rfl
      have HE2 := Aside0.mk (And.intro hold (And.intro hB (And.intro hW (And.intro hv hrow))))
      rcases hval : valT ra (L x.1) with _ | vv
      · rw [hval] at q
        have hsB := Aside0.mk (show stepB ra x = [(x.1, 1)] from by unfold stepB; rw [hval])
        have Q := Aside0.mk (show Calls Tryz.prog 15 #[.pointer (some ⟨ta, 0, none⟩), .string x.1] W fun e w' => e = .returned (.tuple #[.int .i64 0, .bool false]) ∧ Below W.heap.size W w' from q)
        clear q hx hks hvr hval hold hB hW hv hrow
        gi_wp2_with (refine ⟨trivial, (fun h => by cases h), ?_⟩; gi_at_call 15; refine (CallsIn.inRound l' (callsIn_wide.2 Q.out)).mono ?_; rintro e W3 ⟨rfl, hb3⟩; have HB3 := Aside0.mk hb3; clear hb3; refine Hid.out ?_)
        refine Lib.hid ?_
        have HR3 : Aside0 (Boxed W3 (w.heap.size + 1 + 1) 74 v ∧ W3.ownsRow w2.heap.size 83 2 v q0.length (rowh q0)) := ⟨box_below HE2.out.2.2.2.1 HB3.out, row_below HE2.out.2.2.2.2 HB3.out⟩
        have hW3 : w3.heap.size ≤ W3.heap.size := Nat.le_trans HE2.out.2.2.1 HB3.out.size
        have hold3 : ∀ k, k < w3.heap.size → ¬ M3 k → W3.heap[k]? = w3.heap[k]? := fun k hk1 hk2 => (HB3.out.block k (by have := HE2.out.2.2.1; omega)).trans (HE2.out.1 k hk1 hk2)
        have hc := HR3.out.1.cell
        clear y0
        gi_wp2_with (gi_at_builtin; refine wpListIn_append_own _ rfl _ _ 74 rfl w2.heap.size 83 i0 (.agg #[.string ⟨#[]⟩, .int .i64 0]) 2 24 Tryz.underlying74 hi0 hz0 hz1 hz2 rfl (by decide) _ _ _ rfl (HR3.out.2.alloc _) ⟨W3.heap.size, 0, none⟩ 1 1 [.string x.1, .int .i64 1] rfl rfl (cell_two_new _ _ _ _) (by simp [Value.oneCell']) (by omega) (by omega) (by simp; omega) ?_; intro v' w1' hown' hgrow _; obtain ⟨g', cap', rfl⟩ := ownsRow_succ hown'; obtain ⟨hv1, hv2, hr2, hk2, hb2, hkp, hlow⟩ := appended2 (n₀ := w.heap.size) (M := M3) HR3.out.1 (by decide) (by decide) (by decide) HR3.out.2 (by omega) (by omega) (by omega) m2 hown' hgrow; have hkm := appendedM (N := w3.heap.size) (by decide) (by decide) HR3.out.1 HR3.out.2 hown' hgrow m2 (m4 W3 hold3); have hku := appendedU (B' := w3.heap.size) (by unfold Quiet; decide) (by omega) HR3.out.1 HR3.out.2 hown' hgrow; have hc1 := hv1.cell; have hf1 := hv1.frozen)
        have hb3 := HB3.out
        refine ⟨(KeepsU.of hb3).trans hku, (KpM.of hb3).trans hkm, ⟨_, hv2, ?_⟩, fun k hk1 hk2 => ?_, (belowAt HE2.out.2.1 hb3).trans hb2, Nat.le_trans hW3 hb2.size⟩
        · rw [chB_snoc, hsB.out, ← List.append_assoc, hq0, List.length_append, rowh_snoc]; exact hr2
        · have hk9 : k < W3.heap.size := by omega
          exact (hkm.low k _ (Array.getElem?_eq_getElem hk9) hk1 hk2).trans ((Array.getElem?_eq_getElem hk9).symm.trans (hold3 k hk1 hk2))
      · obtain ⟨y, rfl⟩ := hvr _ hval
        rw [hval] at q
        have Q := Aside0.mk (show Calls Tryz.prog 15 #[.pointer (some ⟨ta, 0, none⟩), .string x.1] W fun e w' => e = .returned (.tuple #[.int .i64 y, .bool true]) ∧ Below W.heap.size W w' from q)
        have hsB := Aside0.mk (show stepB ra x = [] from by unfold stepB; rw [hval])
        clear q hx hks hvr hval hold hB hW hv hrow
        gi_wp2_with (refine ⟨trivial, (fun h => by cases h), ?_⟩; gi_at_call 15; refine (CallsIn.inRound l' (callsIn_wide.2 Q.out)).mono ?_; rintro e W3 ⟨rfl, hb3⟩; have HB3 := Aside0.mk hb3; clear hb3; refine Hid.out ?_)
        refine Lib.hid ?_
        gi_wp2_with fail
        have hb3 := HB3.out
        refine ⟨KeepsU.of hb3, KpM.of hb3, ⟨_, box_below HE2.out.2.2.2.1 hb3, ?_⟩, fun k hk1 hk2 => ?_, belowAt HE2.out.2.1 hb3, Nat.le_trans HE2.out.2.2.1 hb3.size⟩
        · rw [chB_snoc, hsB.out, List.append_nil, hq0]; exact row_below HE2.out.2.2.2.2 hb3
        · exact (hb3.block k (by have := HE2.out.2.2.1; omega)).trans (HE2.out.1 k hk1 hk2)
    case stop2 =>
      rintro D cd pre W _ _ h _
      exact h.elim
    case done2 =>
      rintro D2 ys2 W2 hD2 e92 ⟨⟨v, hv, hrow⟩, hold, hB2, hW2⟩ hK2
      have hd : zs ++ chB ra ys2 = diffL ra rb := by rw [← hzs, e9, e92]; rfl
      rw [hd] at hrow
      have hdl : (diffL ra rb).length < 4611686018427387904 := by
        rw [← hd, List.length_append, e92]
        have h8 := chB_len ra (ovr (fun _ => false) (fun _ => true) ⟨#[]⟩ rb)
        have h9 : (ovr (fun _ => false) (fun _ => true) ⟨#[]⟩ rb).length = (All rb).length := HL.out.2
        have := HN.out
        omega
      have z0 := hv.cell
      have qs := Aside0.mk (sortOwn W2 w2.heap.size v (diffL ra rb) hrow hdl)
      have cD2 : W2.heap[D1]? = some (.deferred (some [])) := (hold D1 hlD (m3 D1 _ cD (by omega) (fun cs e => by cases e))).trans cD
      have HF := Aside0.mk (And.intro hv (And.intro hrow (And.intro cD2 (And.intro hB2 (And.intro hK2 hD2)))))
      clear hv hrow hold cD2 hB2 hK2 e92 h1 h2 h3 hd hdl
      gi_wp2_with (refine ⟨trivial, ?_⟩; gi_at_call 63; refine (callsIn_wide.2 qs.out).mono ?_; rintro e W3 ⟨rfl, l, hp, hs, hr, hg⟩; have HG := Aside0.mk (And.intro hp (And.intro hs (And.intro hr hg))); clear hp hs hr hg; refine Hid.out ?_)
      refine Lib.hid ?_
      obtain ⟨hp, hs, hr, hg⟩ := HG.out
      obtain ⟨hv, hrow, cD2, hB2, hK2, hD2⟩ := HF.out
      have hfar : ∀ (k : Nat) (o : Obj), W2.heap[k]? = some o → (∀ cs, o ≠ .cells cs 83 (0, 0)) → W3.heap[k]? = some o := fun k o h1 h2 =>
        (hg.block k (Array.getElem?_eq_some_iff.1 h1).1 (fun e9 => by
          obtain ⟨cs', hc⟩ := own_typed hrow k e9.symm
          rw [hc] at h1
          exact h2 cs' (Option.some.inj h1).symm)).trans h1
      have hv3 : Boxed W3 (w.heap.size + 1 + 1) 74 v := hfar _ _ hv (fun cs e => by injection e with _ e2 _; cases e2)
      have z3 := hv3.cell
      have hB3 : Below w2.heap.size W2 W3 := below_grown hg (by omega) (fun k hk => own_base hrow k hk)
      have hK1' := hfar _ _ cD2 (fun cs e => by cases e)
      have hK2' := hfar _ _ hK2 (fun cs e => by cases e)
      clear z0
      gi_wp2_with fail
      refine leaves_cells (b := w.heap.size) [D2, D1] _ ?_ ?_ ?_ ?_ (fun W' hW' hC' => ?_)
      · have := hB3.size; omega
      · intro D hD
        rcases List.mem_cons.1 hD with rfl | hD
        · exact hK2'
        · rw [List.mem_singleton.1 hD]; exact hK1'
      · simp only [List.nodup_cons, List.mem_cons, List.not_mem_nil, or_false, not_false_eq_true, List.nodup_nil, and_true]
        omega
      · intro D hD
        rcases List.mem_cons.1 hD with rfl | hD
        · omega
        · rw [List.mem_singleton.1 hD]; omega
      · refine ⟨_, results_tmp rfl _ _ _, v, rfl, ⟨l, hp, hs, own_move (own_weak hr (by omega)) (fun k hk => ?_)⟩, (hB2.trans (hB3.mono (by omega))).trans hW'⟩
        obtain ⟨cs', hc⟩ := own_typed hr k hk
        rw [hc]
        exact hC' _ _ _ _ hc
end Go.Proofs.YtjhgknagmiekeaaGreat.D
set_option linter.unusedVariables false
set_option linter.unusedSimpArgs false
namespace Go.Proofs.YtjhgknagmiekeaaGreat.G
open Go.RowKit Go.Lib Go.Proofs Go.Conc
open Go.Proofs.YtjhgknagmiekeaaGreatW.PrintWords hiding Kept
open Go.Proofs.YtjhgknagmiekeaaGreatW.PrintLast
open Go.Proofs.YtjhgknagmiekeaaGreat.T (Nd Tr L ptr All valT Strs findT markN watchN gotV)
open Go.Proofs.YtjhgknagmiekeaaGreat.D (ComsAt tot tot_le tot_take diffC diffL diff_mem rowh)
attribute [local go_sem] Oper.semAt_some
set_option maxRecDepth 100000 in
set_option maxHeartbeats 16000000 in
theorem hearsLaw (A : Option Addr) (c : Nat) (cls : List (List Chg)) (p k : ByteArray) (w : World) (hA : ComsAt w A cls) (hcap : cls.length ≤ c) (hl : cls.length < 100000000) (ht : tot cls < 100000000) (hk : ∀ l ∈ cls, ∀ c ∈ l, c.key.size < 4000000000000) (hps : p.size < 1000000000000) (hks : k.size < 1000000000000) :
    Calls Tryz.prog 7 #[.slice A cls.length c, .string p, .string k] w fun e w' => e = .returned (.bool true) ∧ Below w.heap.size w w' := by
  have q1 := Aside0.mk (txnAlive w)
  have HA := Aside0.mk hA
  have HK := Aside0.mk hk
  have HT := Aside0.mk ht
  have HPK := Aside0.mk (And.intro hps hks)
  obtain ⟨N, eN⟩ : ∃ N, cls.length = N := ⟨_, rfl⟩
  have HN := Aside0.mk eN
  have hN : N < 100000000 := by omega
  rw [eN] at hcap
  rw [eN]
  clear hA hl hk ht eN
  go_enter Tryz.func7, Tryz.ntmps7
  go_wp2_with fail
  go_at_call 8
  refine q1.out.mono ?_
  rintro e w1 ⟨rfl, hb1⟩
  have HB1 := Aside0.mk hb1
  have q2 := Aside0.mk (newOwn w1)
  unfold ptr at q2
  clear hb1 q1
  go_wp2_with fail
  go_at_call 9
  refine q2.out.mono ?_
  rintro e w2 ⟨b, root0, rfl, ho2, hl2, hb2, hv2⟩
  have HB2 : Aside0 (Below w.heap.size w w2) := ⟨T.belowAt HB1.out hb2⟩
  have HO0 : Aside0 (HOwn w.heap.size w2 b root0 0 ∧ (All root0).length = 0) := ⟨HOwn.new ⟨ho2.base, ho2.mkd, Nat.le_trans HB1.out.size ho2.low.1, fun m hm => Nat.le_trans HB1.out.size (ho2.low.2 m hm)⟩ hv2, hl2⟩
  clear ho2 hl2 hb2 hv2 q2 HB1
  go_wp2_with fail
  go_loopg [30] (N + 1) (fun kq v30 W => ∃ (i : Nat) (n : Int) (root : Nd), v30 = .int .i64 (i : Int) ∧ Aside0 (i + kq = N + 1 ∧ i ≤ N ∧ i ≤ 3) ∧ Aside0 (HOwn w.heap.size W b root n ∧ (All root).length ≤ i * 200000002 ∧ 0 ≤ n ∧ n ≤ i * 200000002) ∧ Aside0 (Below w.heap.size w W))
  case atStart => exact ⟨0, 0, root0, rfl, ⟨by omega, by omega, by omega⟩, ⟨HO0.out.1, by rw [HO0.out.2]; omega, by omega, by omega⟩, HB2⟩
  case round =>
    clear HB2 HO0
    obtain ⟨i, n, root, rfl, HI, HO, HB⟩ := hrel
    by_cases hi : i < N
    · have hi' : i < cls.length := by rw [HN.out]; exact hi
      obtain ⟨ad, Ai, ci, ea, k0, hch⟩ := HA.out i hi'
      obtain ⟨l, el⟩ : ∃ l, cls[i] = l := ⟨_, rfl⟩
      have hmem : l ∈ cls := by rw [← el]; exact List.getElem_mem _
      have htot : l.length ≤ tot cls := by have := tot_le cls i hi'; rw [el] at this; omega
      rw [el] at k0 hch
      subst ea
      replace k0 := (T.Kept.of HB.out).cell k0
      have hin : (i : Int) < (N : Int) := by omega
      have hci : ¬ c = i := by omega
      have HL := Aside0.mk (And.intro hmem (And.intro htot hch))
      obtain ⟨v, tb, hbA, htA⟩ := HO.out.1.own.base
      have q3 := Aside0.mk (base_tree wr b v tb _ false hbA)
      obtain ⟨cu, co, du, dd, e1, e2, hI⟩ := heard_start HO.out.1 htA.fine.toGood p k
      have Q31 := T.treeUnder wr tb root htA p (by have := HPK.out.1; omega)
      rw [e1] at Q31
      have Q32 := fun W (hb : Below wr.heap.size wr W) => T.treeWatch W tb root (htA.keep (T.Kept.of hb)) (mks_below HO.out.1.own.mkd hb) k (by have := HPK.out.2; omega)
      rw [e2] at Q32
      have Q15 := fun W (hb : Below wr.heap.size wr W) => T.getC W tb root (htA.keep (T.Kept.of hb)) k (by have := HPK.out.2; omega)
      obtain ⟨gx, eg⟩ := got_form htA.vals (L k)
      obtain ⟨there, eth⟩ : ∃ b, (findT root (L k)).isSome = b := ⟨_, rfl⟩
      rw [eth] at hI eg
      rw [eg] at Q15
      have q31 := Aside0.mk Q31
      have q32 := Aside0.mk Q32
      have q15 := Aside0.mk Q15
      have H0 := Aside0.mk (And.intro htA (And.intro hI eth))
      clear Q31 Q32 Q15 e1 e2 eg eth hI htA hbA hmem htot hch el hi'
      unfold ptr at q31 q32 q15
      go_wp2_with fail
      go_at_call 12
      refine q3.out.mono ?_
      rintro e w' ⟨rfl, hw⟩
      subst hw
      go_wp2_with fail
      go_at_call 31
      refine q31.out.mono ?_
      rintro e w4 ⟨rfl, hb4⟩
      have HB4 := Aside0.mk hb4
      clear hb4 q31 q3
      go_wp2_with fail
      go_at_call 32
      refine (q32.out w4 HB4.out).mono ?_
      rintro e w5 ⟨rfl, hb5⟩
      have HB5 := Aside0.mk (T.belowAt HB4.out hb5)
      clear hb5 q32 HB4
      go_wp2_with fail
      go_at_call 15
      refine (q15.out w5 HB5.out).mono ?_
      rintro e w6 ⟨rfl, hb6⟩
      have HB6 := Aside0.mk (T.belowAt HB5.out hb6)
      clear hb6 q15 HB5
      go_wp2_with fail
      have hre : ComsAt w (some (ad.add i)) (cls.drop i) := fun j hj => by
        have hj2 : i + j < cls.length := by rw [List.length_drop] at hj; omega
        obtain ⟨ad2, A2, c2, ea, h0, h1⟩ := HA.out (i + j) hj2
        cases ea
        rw [List.getElem_drop]
        exact ⟨ad.add i, A2, c2, rfl, by rw [add_add]; exact h0, h1⟩
      obtain ⟨rs, ers⟩ : ∃ rs, cls.drop i = rs := ⟨_, rfl⟩
      have hrm : ∀ x ∈ rs, x ∈ cls := fun x hx => by rw [← ers] at hx; exact List.mem_of_mem_drop hx
      have hrt : tot rs ≤ tot cls := by
        have h9 : tot (cls.take i) + tot (cls.drop i) = tot cls := by
          unfold tot
          rw [← List.sum_append, ← List.map_append, List.take_append_drop]
        rw [ers] at h9
        omega
      obtain ⟨M, eM⟩ : ∃ M, rs.length = M := ⟨_, rfl⟩
      have hMN : N - i = M := by rw [← eM, ← ers, List.length_drop, HN.out]
      have hML : M < 100000000 := by omega
      rw [ers] at hre
      have HR := Aside0.mk (And.intro hre (And.intro hrm (And.intro hrt eM)))
      clear hre hrm hrt ers eM
      rw [hMN]
      have HO6 : Aside0 (HOwn w.heap.size w6 b root n) := ⟨HO.out.1.belowG HB6.out⟩
      have HH6 : Aside0 (HeardI w6 root root p k there cu co du dd false ∧ Tr w6 tb root) := ⟨H0.out.2.1.below HB6.out, H0.out.1.keep (T.Kept.of HB6.out)⟩
      have HB6w : Aside0 (Below w.heap.size w w6) := ⟨T.belowAt HB.out HB6.out⟩
      have HRT : Aside0 ((All root).length ≤ i * 200000002) := ⟨HO.out.2.1⟩
      have HG := Aside0.mk (And.intro H0.out.1.fine.toGood (And.intro H0.out.1.vals H0.out.2.2))
      obtain ⟨ad2, ead2⟩ : ∃ ad2, ad.add i = ad2 := ⟨_, rfl⟩
      (try rw [ead2] at HR)
      (try rw [ead2])
      have HAD := Aside0.mk ead2
      clear ead2
      go_loopg [15, 61] (M + 1) (fun kq v15 v61 W => ∃ (q : Nat) (n2 : Int) (cur : Nd) (du dd tch : Bool), v15 = .bool tch ∧ v61 = .int .i64 (q : Int) ∧ Aside0 (q + kq = M + 1 ∧ q ≤ M) ∧ Aside0 (HOwn w.heap.size W b cur n2 ∧ (All cur).length ≤ i * 200000002 + tot (rs.take q) ∧ 0 ≤ n2 ∧ n2 ≤ i * 200000002 + q) ∧ Aside0 (HeardI W root cur p k there cu co du dd tch ∧ Tr W tb root) ∧ Aside0 (Below w.heap.size w W))
      case atStart => exact ⟨0, n, root, du, dd, false, rfl, rfl, ⟨by omega, by omega⟩, ⟨HO6.out, Nat.le_trans HO.out.2.1 (Nat.le_add_right _ _), HO.out.2.2.1, by have := HO.out.2.2.2; omega⟩, HH6, HB6w⟩
      case round =>
        clear HO6 HH6 HB6w H0 HO HB HB6 k0
        obtain ⟨q, n2, cur, du, dd, tch, rfl, rfl, HQ, HO, HH, HB⟩ := hrel
        by_cases hq : q < M
        · have hq' : q < rs.length := by rw [HR.out.2.2.2]; exact hq
          obtain ⟨ad3, A2, c2, ea3, k0, hch⟩ := HR.out.1 q hq'
          obtain ⟨l2, el⟩ : ∃ l2, rs[q] = l2 := ⟨_, rfl⟩
          have hmem : l2 ∈ cls := HR.out.2.1 _ (by rw [← el]; exact List.getElem_mem _)
          have htk : tot (rs.take (q + 1)) = tot (rs.take q) + l2.length := by rw [← el]; exact tot_take rs q hq'
          have htl : tot (rs.take q) + l2.length ≤ tot rs := by rw [← el]; exact tot_le rs q hq'
          rw [el] at k0 hch
          cases ea3
          replace k0 := (T.Kept.of HB.out).cell k0
          have hqm : (q : Int) < (M : Int) := by omega
          have q10 := Aside0.mk (doneHeard w.heap.size wr HB.out.size b n2 cur HO.out.1 A2 c2 l2 (fun W _ hb => hch.keep (T.Kept.of (HB.out.trans hb))) (HK.out l2 hmem) (by have := HT.out; have := HR.out.2.2.1; omega) (by have := HI.out.2.2; have := HT.out; have := HR.out.2.2.1; have := HO.out.2.1; omega) HO.out.2.2.1 (by have := HI.out.2.2; have := HO.out.2.2.2; omega))
          have HL2 := Aside0.mk (And.intro hmem (And.intro htk (And.intro htl hch)))
          obtain ⟨v2, tb2, hbA2, htA2⟩ := HO.out.1.own.base
          have HTC := Aside0.mk htA2.fine.toGood
          clear hmem htk htl hch el hq' hbA2 htA2
          unfold ptr at q10
          go_wp2_with fail
          go_at_call 10
          refine q10.out.mono ?_
          rintro e w7 ⟨rfl, cur7, n7, ho7, hn7, hn7', hl7, hb7, hf7, Wf, ks, hh7⟩
          have H7 := Aside0.mk (And.intro ho7 (And.intro hn7 (And.intro hn7' (And.intro hl7 (And.intro hb7 (And.intro hf7 hh7))))))
          clear ho7 hn7 hn7' hl7 hb7 hf7 hh7 q10
          go_wp2_with fail
          go_loopg [15, 71] (l2.length + 1) (fun kq v15 v71 W => ∃ (j : Nat) (t : Bool), v15 = .bool t ∧ v71 = .int .i64 (j : Int) ∧ Aside0 (j + kq = l2.length + 1 ∧ j ≤ l2.length) ∧ Aside0 ((tch = true → t = true) ∧ ∀ (m : Nat) (hm : m < l2.length), m < j → L l2[m].key = L k → t = true) ∧ Aside0 (Below w7.heap.size w7 W))
          case atStart => exact ⟨0, tch, rfl, rfl, ⟨by omega, by omega⟩, ⟨fun h => h, fun m hm h => absurd h (Nat.not_lt_zero _)⟩, ⟨Below.refl _ _⟩⟩
          case round =>
            obtain ⟨j, t, rfl, rfl, HJ, HTT, HW7⟩ := hrel
            by_cases hj : j < l2.length
            · have hjl : (j : Int) < (l2.length : Int) := by omega
              have HWJ := Aside0.mk (show wrap64 ((j : Int) + 1) = ((j + 1 : Nat) : Int) from by have := HT.out; have := HR.out.2.2.1; have := HL2.out.2.2.1; unfold wrap64; omega)
              have hw7 : Below w.heap.size w wr := by
                have h1 := HB.out.trans H7.out.2.2.2.2.1
                exact h1.trans (HW7.out.mono h1.size)
              obtain ⟨ad4, ea4, j0, j1, j2⟩ := (HL2.out.2.2.2.keep (T.Kept.of hw7)) j hj
              obtain ⟨o, eo⟩ : ∃ o, l2[j] = o := ⟨_, rfl⟩
              have HOJ := Aside0.mk (show ∃ h : j < l2.length, l2[j] = o from ⟨hj, eo⟩)
              rw [eo] at j0 j1 j2
              clear eo hw7
              obtain ⟨dr, key, val⟩ := o
              dsimp only at j0 j1 j2
              have j1' : wr.cell? ⟨(ad4.add (j * 3)).block, (ad4.add (j * 3)).off + 1, none⟩ = some (.string key) := by rw [← add_field _ _ 1 (by omega)]; exact j1
              have j2' : wr.cell? ⟨(ad4.add (j * 3)).block, (ad4.add (j * 3)).off + 2, none⟩ = some (.int .i64 val) := by rw [← add_field _ _ 2 (by omega)]; exact j2
              subst ea4
              clear j1 j2 k0
              go_upto_region 25 with fail
              obtain ⟨G, eG⟩ : ∃ G, wr.heap.size = G := ⟨_, rfl⟩
              obtain ⟨W4, eW4⟩ : ∃ W4, wr.alloc (Obj.cells #[.bool dr, .string key, .int .i64 val] 30) = W4 := ⟨_, rfl⟩
              have HW4 : Aside0 (W4.heap[G]? = some (.cells #[.bool dr, .string key, .int .i64 val] 30 (0, 0)) ∧ Below wr.heap.size wr W4) := ⟨by rw [← eW4, ← eG]; exact World.alloc_heap_new wr _, by rw [← eW4]; exact (Below.refl _ wr).alloc (Nat.le_refl _) _⟩
              rw [eW4, eG]
              have b1 : W4.cell? ⟨G, 1, none⟩ = some (.string key) := by rw [blk_cell HW4.out.1]; rfl
              clear eW4 eG j0 j1' j2'
              obtain ⟨tq, etq⟩ : ∃ tq, (t || (key.toList == k.toList)) = tq := ⟨_, rfl⟩
              have HTQ := Aside0.mk etq
              have HB9 : Aside0 (Below w7.heap.size w7 W4) := ⟨T.belowAt HW7.out HW4.out.2⟩
              clear etq
              cases t with
              | true =>
                go_wp2_with fail
                go_roundg (l2.length - j)
                case measure => have := HJ.out; omega
                case rel => 
                  refine ⟨j + 1, tq, by rw [← HTQ.out]; first | rfl | (simp; done), by rw [HWJ.out], ⟨by have := HJ.out; omega⟩, ⟨fun h => ?_, fun m hm hmj hk => ?_⟩, HB9⟩
                  · have := HTT.out.1 h
                    rw [← HTQ.out]
                    first | rfl | (rw [this]; rfl) | (cases this)
                  · rw [← HTQ.out]
                    by_cases hmj2 : m < j
                    · have := HTT.out.2 m hm hmj2 hk
                      first | rfl | (rw [this]; rfl) | (cases this)
                    · obtain ⟨_, eo⟩ := HOJ.out
                      have hmj3 : m = j := by omega
                      subst hmj3
                      rw [eo] at hk
                      rw [show key = k from L_inj hk]
                      simp
              | false =>
                go_wp2_with fail
                go_roundg (l2.length - j)
                case measure => have := HJ.out; omega
                case rel => 
                  refine ⟨j + 1, tq, by rw [← HTQ.out]; first | rfl | (simp; done), by rw [HWJ.out], ⟨by have := HJ.out; omega⟩, ⟨fun h => ?_, fun m hm hmj hk => ?_⟩, HB9⟩
                  · have := HTT.out.1 h
                    rw [← HTQ.out]
                    first | rfl | (rw [this]; rfl) | (cases this)
                  · rw [← HTQ.out]
                    by_cases hmj2 : m < j
                    · have := HTT.out.2 m hm hmj2 hk
                      first | rfl | (rw [this]; rfl) | (cases this)
                    · obtain ⟨_, eo⟩ := HOJ.out
                      have hmj3 : m = j := by omega
                      subst hmj3
                      rw [eo] at hk
                      rw [show key = k from L_inj hk]
                      simp
            · have hjl : ¬ (j : Int) < (l2.length : Int) := by omega
              obtain ⟨du2, dd2, hI7⟩ := HH.out.1.step HTC.out HO.out.1.own.mkd HO.out.1.lone H7.out.2.2.2.2.2.2 (tch' := t) HTT.out.1 (fun c hc hk => by
                obtain ⟨m, hm, e⟩ := List.getElem_of_mem hc
                exact HTT.out.2 m hm (by have := HJ.out; omega) (by rw [e]; exact hk))
              have hO8 := H7.out.1.belowG HW7.out
              have hI8 := hI7.below HW7.out
              have hT8 : Tr wr tb root := (H7.out.2.2.2.2.2.1.tr rfl rfl rfl rfl HH.out.2).keep (T.Kept.of HW7.out)
              have hB8 : Below w.heap.size w wr := by
                have h1 := HB.out.trans H7.out.2.2.2.2.1
                exact h1.trans (HW7.out.mono h1.size)
              obtain ⟨v3, tb3, hbA, htA⟩ := hO8.own.base
              have q12 := Aside0.mk (base_tree wr b v3 tb3 _ false hbA)
              have hb1 : (All root).length < 2000000000000 := by have := HI.out.2.2; have := HRT.out; omega
              have hb2 : (All cur7).length < 2000000000000 := by have := HI.out.2.2; have := H7.out.2.2.2.1; have := HO.out.2.1; have := HT.out; have := HR.out.2.2.1; have := HL2.out.2.2.1; omega
              have Q28 := diffC tb tb3 root cur7 wr hT8 htA (fun r hr => by
                rcases hr with h | h
                · exact T.key_len hT8.fine r h
                · exact T.key_len htA.fine r h) (by omega)
              have q28 := Aside0.mk Q28
              have H8 := Aside0.mk (And.intro hO8 (And.intro hI8 (And.intro hT8 (And.intro hB8 (And.intro htA.fine.toGood htA.vals)))))
              have HSZ := Aside0.mk (And.intro hb1 hb2)
              clear hO8 hI8 hI7 hT8 hB8 hbA htA Q28 hb1 hb2 k0
              unfold ptr at q28
              go_wp2_with fail
              go_at_call 12
              refine q12.out.mono ?_
              rintro e w8 ⟨rfl, hw⟩
              subst hw
              go_wp2_with fail
              go_at_call 28
              refine q28.out.mono ?_
              rintro e w9 ⟨vd, rfl, ⟨ds, hdp, hds, hrow⟩, hb9⟩
              have HD := Aside0.mk (And.intro hdp (And.intro hrow hb9))
              obtain ⟨Ad, cd, rfl⟩ := D.own_form hrow
              clear hdp hds hrow hb9 q12 q28
              go_wp2_with fail
              go_loopg [91] (ds.length + 1) (fun kq v91 W => ∃ j : Nat, v91 = .int .i64 (j : Int) ∧ Aside0 (j + kq = ds.length + 1 ∧ j ≤ ds.length) ∧ Aside0 (Below w9.heap.size w9 W))
              case atStart => exact ⟨0, rfl, ⟨by omega, by omega⟩, ⟨Below.refl _ _⟩⟩
              case round =>
                obtain ⟨j2, rfl, HJ2, HW9⟩ := hrel
                have HW90 := HW9
                have hI9 := (H8.out.2.1.below HD.out.2.2).below HW9.out
                have HIW := Aside0.mk hI9
                clear hI9
                by_cases hj2 : j2 < ds.length
                · have hjl2 : (j2 : Int) < (ds.length : Int) := by omega
                  have hrow2 := D.row_below HD.out.2.1 HW9.out
                  obtain ⟨gA, egA⟩ := D.own_some hrow2 (by omega)
                  subst egA
                  obtain ⟨g0, g1⟩ := D.rowh_get ds j2 hj2
                  obtain ⟨x, ex⟩ : ∃ x, ds[j2] = x := ⟨_, rfl⟩
                  rw [ex] at g0 g1
                  have a0 : wr.cell? ⟨gA, j2 * 2, none⟩ = some (.string x.1) := by rw [hrow2.cellAt (j2 * 2) (by omega)]; exact g0
                  have a1 : wr.cell? ⟨gA, j2 * 2 + 1, none⟩ = some (.int .i64 x.2) := by rw [hrow2.cellAt (j2 * 2 + 1) (by omega)]; exact g1
                  have hne := diff_mem HG.out.1 HG.out.2.1 H8.out.2.2.2.2.1 H8.out.2.2.2.2.2 (HD.out.1.mem_iff.1 (show x ∈ ds by rw [← ex]; exact List.getElem_mem _))
                  obtain ⟨dk, dv⟩ := x
                  dsimp only at a0 a1 hne
                  have hdl : ds.length < 4000000000000 := by
                    have h1 := HD.out.1.length_eq
                    have h2 := D.chA_len cur7 (D.walkL root)
                    have h3 := D.chB_len root (D.walkL cur7)
                    have h4 : (D.walkL root).length = (All root).length := Go.Proofs.YtjhgknagmiekeaaGreat.N.ovr_len HG.out.1
                    have h5 : (D.walkL cur7).length = (All cur7).length := Go.Proofs.YtjhgknagmiekeaaGreat.N.ovr_len H8.out.2.2.2.2.1
                    have h6 : (diffL root cur7).length = (D.chA cur7 (D.walkL root)).length + (D.chB root (D.walkL cur7)).length := List.length_append
                    have := HSZ.out
                    omega
                  have HWJ := Aside0.mk (show wrap64 ((j2 : Int) + 1) = ((j2 + 1 : Nat) : Int) from by unfold wrap64; omega)
                  clear hrow2 g0 g1 ex hdl
                  go_upto_region 33 with fail
                  obtain ⟨G, eG⟩ : ∃ G, wr.heap.size = G := ⟨_, rfl⟩
                  obtain ⟨W4, eW4⟩ : ∃ W4, wr.alloc (Obj.cells #[.string dk, .int .i64 dv] 83) = W4 := ⟨_, rfl⟩
                  have HW4 : Aside0 (W4.heap[G]? = some (.cells #[.string dk, .int .i64 dv] 83 (0, 0)) ∧ Below wr.heap.size wr W4) := ⟨by rw [← eW4, ← eG]; exact World.alloc_heap_new wr _, by rw [← eW4]; exact (Below.refl _ wr).alloc (Nat.le_refl _) _⟩
                  rw [eW4, eG]
                  have b0 : W4.cell? ⟨G, 0, none⟩ = some (.string dk) := by rw [blk_cell HW4.out.1]; rfl
                  have HB11 : Aside0 (Below w9.heap.size w9 W4) := ⟨T.belowAt HW90.out HW4.out.2⟩
                  have hseen := HIW.out.seen hne
                  have HW9 := Aside0.mk (HIW.out.below HW4.out.2)
                  clear eW4 eG a0 a1 hne HIW
                  by_cases h1 : (p.size : Int) ≤ (dk.size : Int)
                  · by_cases h2 : ((dk.extract 0 p.size).toList == p.toList) = true
                    · have hdu := hseen.1 (by
                        rw [beq_q] at h2
                        rw [← of_decide_eq_true h2]
                        show (dk.extract 0 p.size).data.toList <+: dk.data.toList
                        simp only [ByteArray.data_extract, Array.toList_extract]
                        simp only [List.extract_eq_take_drop, List.drop_zero, Nat.sub_zero]
                        exact List.take_prefix _ _)
                      have q33u := Aside0.mk (firedC W4 (cu + 1) cu du2 HW9.out.wu)
                      subst hdu
                      by_cases hok : (dk.toList == k.toList) = true
                      · have hdd := hseen.2 (by rw [beq_q] at hok; rw [of_decide_eq_true hok])
                        have q33o := Aside0.mk (firedC W4 (co + 1) co dd2 HW9.out.wo)
                        subst hdd
                        go_wp2_with fail
                        go_at_call 33
                        refine q33u.out.mono ?_
                        rintro e w10 ⟨rfl, hw⟩
                        subst hw
                        go_wp2_with fail
                        go_at_call 33
                        refine q33o.out.mono ?_
                        rintro e w11 ⟨rfl, hw⟩
                        subst hw
                        go_wp2_with fail
                        go_roundg (ds.length - j2)
                        case measure => have := HJ2.out; omega
                        case rel => exact ⟨j2 + 1, by rw [HWJ.out], ⟨by have := HJ2.out; omega, by omega⟩, HB11⟩
                      · rw [Bool.not_eq_true] at hok
                        go_wp2_with fail
                        go_at_call 33
                        refine q33u.out.mono ?_
                        rintro e w10 ⟨rfl, hw⟩
                        subst hw
                        go_wp2_with fail
                        go_roundg (ds.length - j2)
                        case measure => have := HJ2.out; omega
                        case rel => exact ⟨j2 + 1, by rw [HWJ.out], ⟨by have := HJ2.out; omega, by omega⟩, HB11⟩
                    · rw [Bool.not_eq_true] at h2
                      by_cases hok : (dk.toList == k.toList) = true
                      · have hdd := hseen.2 (by rw [beq_q] at hok; rw [of_decide_eq_true hok])
                        have q33o := Aside0.mk (firedC W4 (co + 1) co dd2 HW9.out.wo)
                        subst hdd
                        go_wp2_with fail
                        go_at_call 33
                        refine q33o.out.mono ?_
                        rintro e w11 ⟨rfl, hw⟩
                        subst hw
                        go_wp2_with fail
                        go_roundg (ds.length - j2)
                        case measure => have := HJ2.out; omega
                        case rel => exact ⟨j2 + 1, by rw [HWJ.out], ⟨by have := HJ2.out; omega, by omega⟩, HB11⟩
                      · rw [Bool.not_eq_true] at hok
                        go_wp2_with fail
                        go_roundg (ds.length - j2)
                        case measure => have := HJ2.out; omega
                        case rel => exact ⟨j2 + 1, by rw [HWJ.out], ⟨by have := HJ2.out; omega, by omega⟩, HB11⟩
                  ·
                    by_cases hok : (dk.toList == k.toList) = true
                    · have hdd := hseen.2 (by rw [beq_q] at hok; rw [of_decide_eq_true hok])
                      have q33o := Aside0.mk (firedC W4 (co + 1) co dd2 HW9.out.wo)
                      subst hdd
                      go_wp2_with fail
                      go_at_call 33
                      refine q33o.out.mono ?_
                      rintro e w11 ⟨rfl, hw⟩
                      subst hw
                      go_wp2_with fail
                      go_roundg (ds.length - j2)
                      case measure => have := HJ2.out; omega
                      case rel => exact ⟨j2 + 1, by rw [HWJ.out], ⟨by have := HJ2.out; omega, by omega⟩, HB11⟩
                    · rw [Bool.not_eq_true] at hok
                      go_wp2_with fail
                      go_roundg (ds.length - j2)
                      case measure => have := HJ2.out; omega
                      case rel => exact ⟨j2 + 1, by rw [HWJ.out], ⟨by have := HJ2.out; omega, by omega⟩, HB11⟩
                · have hj2e : ¬ (j2 : Int) < (ds.length : Int) := by omega
                  have hB9 : Below w8.heap.size w8 wr := T.belowAt HD.out.2.2 HW90.out
                  have HBN : Aside0 (Below w.heap.size w wr) := ⟨T.belowAt H8.out.2.2.2.1 hB9⟩
                  have HTN : Aside0 (Tr wr tb root) := ⟨H8.out.2.2.1.keep (T.Kept.of hB9)⟩
                  have HWQ := Aside0.mk (show wrap64 ((q : Int) + 1) = ((q + 1 : Nat) : Int) from by unfold wrap64; omega)
                  have HON : Aside0 (Aside0 (HOwn w.heap.size wr b cur7 n7 ∧ (All cur7).length ≤ i * 200000002 + tot (rs.take (q + 1)) ∧ 0 ≤ n7 ∧ n7 ≤ i * 200000002 + ((q + 1 : Nat) : Int))) := ⟨⟨H8.out.1.belowG hB9, by have := H7.out.2.2.2.1; have := HO.out.2.1; have := HL2.out.2.1; omega, H7.out.2.1, by have := H7.out.2.2.1; have := HO.out.2.2.2; omega⟩⟩
                  have q33 := Aside0.mk (firedC wr (co + 1) co dd2 HIW.out.wo)
                  clear hB9
                  cases there with
                  | false =>
                    go_wp2_with fail
                    go_roundg (M - q)
                    case measure => have := HQ.out; omega
                    case rel => exact ⟨q + 1, n7, cur7, _, _, _, rfl, by (first | rw [HWQ.out] | rfl | (simp; done)), ⟨by have := HQ.out; omega, by omega⟩, HON.out, ⟨HIW.out, HTN.out⟩, HBN⟩
                  | true =>
                    cases dd2 with
                    | false =>
                      go_wp2_with fail
                      go_at_call 33
                      refine q33.out.mono ?_
                      rintro e w11 ⟨rfl, hw⟩
                      subst hw
                      go_wp2_with fail
                      go_roundg (M - q)
                      case measure => have := HQ.out; omega
                      case rel => exact ⟨q + 1, n7, cur7, _, _, _, rfl, by (first | rw [HWQ.out] | rfl | (simp; done)), ⟨by have := HQ.out; omega, by omega⟩, HON.out, ⟨HIW.out, HTN.out⟩, HBN⟩
                    | true =>
                      have htt := HIW.out.tch rfl rfl
                      subst htt
                      go_wp2_with fail
                      go_at_call 33
                      refine q33.out.mono ?_
                      rintro e w11 ⟨rfl, hw⟩
                      subst hw
                      go_wp2_with fail
                      go_roundg (M - q)
                      case measure => have := HQ.out; omega
                      case rel => exact ⟨q + 1, n7, cur7, _, _, _, rfl, by (first | rw [HWQ.out] | rfl | (simp; done)), ⟨by have := HQ.out; omega, by omega⟩, HON.out, ⟨HIW.out, HTN.out⟩, HBN⟩


        · have hqe : ¬ (q : Int) < (M : Int) := by omega
          have hqM : q = M := by have := HQ.out; omega
          have htk : tot (rs.take q) ≤ tot cls := by
            rw [hqM, ← HR.out.2.2.2, List.take_length]
            exact HR.out.2.2.1
          have HTK := Aside0.mk (And.intro htk hqM)
          clear htk hqM
          by_cases hi3 : i = 3
          · subst hi3
            go_wp2_with fail
            go_ret
            exact ⟨rfl, HB.out⟩
          · have hi4 : ¬ (3 : Int) ≤ (i : Int) := by have := HI.out.2.2; omega
            have q10 := Aside0.mk (doneHeard w.heap.size wr HB.out.size b n2 cur HO.out.1 Ai ci l (fun W _ hb => HL.out.2.2.keep (T.Kept.of (HB.out.trans hb))) (HK.out l HL.out.1) (by have := HT.out; have := HL.out.2.1; omega) (by have := HI.out.2.2; have := HT.out; have := HL.out.2.1; have := HO.out.2.1; have := HTK.out.1; omega) HO.out.2.2.1 (by have := HI.out.2.2; have := HO.out.2.2.2; have := HTK.out.2; omega))
            have HWI := Aside0.mk (show wrap64 ((i : Int) + 1) = ((i + 1 : Nat) : Int) from by unfold wrap64; omega)
            unfold ptr at q10
            go_wp2_with fail
            go_at_call 10
            refine q10.out.mono ?_
            rintro e w7 ⟨rfl, cur7, n7, ho7, hn7, hn7', hl7, hb7, hf7, Wf, ks, hh7⟩
            have HON : Aside0 (HOwn w.heap.size w7 b cur7 n7 ∧ (All cur7).length ≤ (i + 1) * 200000002 ∧ 0 ≤ n7 ∧ n7 ≤ ((i + 1 : Nat) : Int) * 200000002) := ⟨ho7, by have := HO.out.2.1; have := HT.out; have := HL.out.2.1; have := HTK.out.1; omega, hn7, by have := HO.out.2.2.2; have := HTK.out.2; omega⟩
            have HBN : Aside0 (Below w.heap.size w w7) := ⟨HB.out.trans hb7⟩
            clear ho7 hn7 hn7' hl7 hb7 hf7 hh7 q10
            go_wp2_with fail
            go_roundg (N - i)
            case measure => have := HI.out; omega
            case rel => exact ⟨i + 1, n7, cur7, by (first | rw [HWI.out] | rfl | (simp; done)), ⟨by have := HI.out; omega, by omega, by have := HI.out.2.2; omega⟩, HON, HBN⟩
    · have hie : ¬ (i : Int) < (N : Int) := by omega
      go_wp2_with fail
      go_ret
      exact ⟨rfl, HB.out⟩
end Go.Proofs.YtjhgknagmiekeaaGreat.G
set_option linter.unusedVariables false
set_option linter.unusedSimpArgs false
namespace Go.Proofs.YtjhgknagmiekeaaGreat.R
open Go.ChangeShapes Go.WideShapes Go.Deep Go.RowKit
open Go.Proofs.YtjhgknagmiekeaaGreatW.PrintWords Go.Proofs.YtjhgknagmiekeaaGreat.G
section
variable {H : Type} {enc : TypeId × Value → H} {P : Program} {w : World} {base : Nat} {spare : Nat → Bool} {held : Bool}
theorem open_slice_fields {t e : TypeId} {fs : Array Field} {fuel : Nat} {cs : List Value} {x : DataW H × List MemPlace} (ht : P.underlying t = some (.slice e)) (he : P.underlying e = some (.struct fs))
    (hone : oneCellFields P fs = true) (hC : P.cellsOf e = fs.size) (h : DataW.trod enc P w base spare held fuel t cs = some x) :
    (cs = [.slice none 0 0] ∧ x = (.nil, [])) ∨
    ∃ (a : Addr) (len cap m : Nat) (D : Nat → DataW H) (Pl : Nat → List MemPlace), cs = [.slice (some a) len cap] ∧ base ≤ a.block ∧ len ≤ cap ∧ cap ≤ maxLen ∧ m = (if spare a.block then cap else len) ∧
      x = (.slice ((List.range len).map D) ((List.range (m - len)).map fun j => D (len + j)), MemPlace.row a (m * fs.size) ++ (List.range m).flatMap Pl) ∧
      ∀ i, i < m → ∃ (ys : List (DataW H × List MemPlace)) (n : Nat), D i = .agg (ys.map (·.1)) ∧ Pl i = ys.flatMap (·.2) ∧ ys.length = fs.size ∧
        ∀ (j : Nat) (f : Field), fs[j]? = some f → ∃ (v : Value) (y : DataW H × List MemPlace), w.cell? (a.add (i * fs.size + j)) = some v ∧ ys[j]? = some y ∧ DataW.trod enc P w base spare held n f.type [v] = some y := by
  rcases open_slice ht h with h0 | ⟨a, len, cap, m, n, D, Pl, hcs, hb, hl, hm, hmm, hx, hi⟩
  · exact .inl h0
  · refine .inr ⟨a, len, cap, m, D, Pl, hcs, hb, hl, hm, hmm, by rw [hC] at hx; exact hx, fun i him => ?_⟩
    obtain ⟨cs', hc, ht'⟩ := hi i him
    rw [hC] at hc
    obtain ⟨ys, n', hn', hy, hlen, hyl, hf⟩ := DataW.trod_struct he ht'
    obtain ⟨_, hcl, hat⟩ := World.cells?_some hc
    simp only [Prod.mk.injEq] at hy
    refine ⟨ys, n', hy.1, hy.2, hyl, fun j f hj => ?_⟩
    obtain ⟨ho, hk⟩ := hone_of hone j f hj
    have hjl : j < fs.size := (Array.getElem?_eq_some_iff.1 hj).1
    have hcell := hat j hjl
    have hv : cs'[j]? = some (cs'[j]'(by omega)) := List.getElem?_eq_getElem (by omega)
    have h1 := hf j f hj
    rw [ho, hk] at h1
    have hone' : (cs'.drop j).take 1 = [cs'[j]'(by omega)] := by
      rw [List.drop_eq_getElem_cons (by omega)]
      rfl
    rw [hone'] at h1
    have hys : ys[j]? = some (ys[j]'(by omega)) := List.getElem?_eq_getElem (by omega)
    refine ⟨_, _, ?_, hys, h1.trans hys⟩
    rw [← Go.Deep.add_add, hcell, hv]
end
def dO {H : Type} (p : Chg) : DataW H := .agg [.lit (.bool p.drop), .lit (.string p.key.data.toList), .lit (.int .i64 p.val)]
theorem open_opns {H : Type} {enc : TypeId × Value → H} {W : World} {base : Nat} {spare : Nat → Bool} {held : Bool} {a : Option Addr} {len cap : Nat} {d : DataW H} {ps : List MemPlace}
    (h : DataW.Trod enc Tryz.prog W base spare held 31 (.slice a len cap) d ps) :
    ∃ l : List Chg, len = l.length ∧ ChAt W a l ∧ ((d = .nil ∧ l = []) ∨ ∃ sp, d = .slice (l.map dO) sp) := by
  obtain ⟨fuel, hf⟩ := h
  rcases open_slice_fields (fs := #[_, _, _]) Tryz.underlying31 Tryz.underlying30 (by kernel_rfl) (by kernel_rfl) hf with ⟨hcs, hx⟩ | ⟨ad, len', cap', m, D, Pl, hcs, _, hl, hm, hmm, hx, hi⟩
  · simp [Value.cells] at hcs
    obtain ⟨rfl, rfl, rfl⟩ := hcs
    obtain ⟨rfl, _⟩ := Prod.mk.inj hx
    exact ⟨[], rfl, fun i hi => by simp at hi, .inl ⟨rfl, rfl⟩⟩
  · simp [Value.cells] at hcs
    obtain ⟨rfl, rfl, rfl⟩ := hcs
    obtain ⟨hx, _⟩ := Prod.mk.inj hx
    subst hx
    have hlm : len ≤ m := by rw [hmm]; split; exact hl; exact Nat.le_refl _
    have each : ∀ i : Nat, ∃ p : Chg, i < len → D i = dO p ∧ W.cell? (ad.add (i * 3)) = some (.bool p.drop) ∧ W.cell? (ad.add (i * 3 + 1)) = some (.string p.key) ∧ W.cell? (ad.add (i * 3 + 2)) = some (.int .i64 p.val) := by
      intro i
      by_cases hil : i < len
      · obtain ⟨ys, n, hD, _, hyl, hj⟩ := hi i (by omega)
        obtain ⟨v0, y0, c0, e0, t0⟩ := hj 0 _ rfl
        obtain ⟨v1, y1, c1, e1, t1⟩ := hj 1 _ rfl
        obtain ⟨v2, y2, c2, e2, t2⟩ := hj 2 _ rfl
        obtain ⟨n0, q0, r0⟩ := DataW.trod_bool Tryz.underlying4 t0
        obtain ⟨s1, q1, r1, w1⟩ := DataW.trod_string Tryz.underlying9 t1
        obtain ⟨n2, q2, r2, w2⟩ := DataW.trod_int Tryz.underlying3 t2
        simp only [List.cons.injEq, and_true] at q0 q1 q2
        subst q0 q1 q2 r0 r1 r2
        refine ⟨⟨n0, s1, n2⟩, fun _ => ⟨?_, c0, c1, c2⟩⟩
        have hys : ys = [(.lit (.bool n0), []), (.lit (.string s1.data.toList), []), (.lit (.int .i64 n2), [])] := by
          match ys, hyl, e0, e1, e2 with
          | [a, b, c], _, e0, e1, e2 => simp at e0 e1 e2; rw [e0, e1, e2]
        rw [hD, hys]
        rfl
      · exact ⟨⟨false, ⟨#[]⟩, 0⟩, fun h => absurd h hil⟩
    obtain ⟨g, hg⟩ := Classical.axiomOfChoice each
    refine ⟨(List.range len).map g, by simp, fun i hil => ?_, .inr ⟨(List.range (m - len)).map fun j => D (len + j), ?_⟩⟩
    · have hi2 : i < len := by simpa using hil
      have he : ((List.range len).map g)[i] = g i := by simp
      rw [he]
      exact ⟨ad, rfl, (hg i hi2).2⟩
    · congr 1
      rw [List.map_map]
      apply List.map_congr_left
      intro j hj
      exact (hg j (List.mem_range.1 hj)).1
def wtO : List Chg → Nat
  | [] => 0
  | p :: ps => p.key.size + 1 + wtO ps
theorem wtO_bulk {H : Type} (l : List Chg) : wtO l ≤ Rows.uptoBulkAll (l.map (dO (H := H))) := by
  induction l with
  | nil => exact Nat.zero_le _
  | cons p ps ih =>
    have e : p.key.data.toList.length = p.key.size := T.L_len _
    simp only [List.map_cons, Rows.uptoBulkAll, wtO, dO, Rows.uptoBulk, e]
    omega
theorem wtO_len : ∀ (l : List Chg), l.length ≤ wtO l
  | [] => Nat.zero_le _
  | p :: ps => by have := wtO_len ps; simp only [List.length_cons, wtO]; omega
theorem wtO_mem : ∀ (l : List Chg) (p : Chg), p ∈ l → p.key.size ≤ wtO l
  | q :: l, p, h => by
    simp only [wtO]
    rcases List.mem_cons.1 h with e | e
    · rw [e]; omega
    · have := wtO_mem l p e; omega
end Go.Proofs.YtjhgknagmiekeaaGreat.R
set_option linter.unusedVariables false
set_option linter.unusedSimpArgs false
namespace Go.Proofs.YtjhgknagmiekeaaGreat.R
open Go.ChangeShapes Go.WideShapes Go.Deep Go.RowKit
open Go.Proofs.YtjhgknagmiekeaaGreatW.PrintWords Go.Proofs.YtjhgknagmiekeaaGreat.G Go.Proofs.YtjhgknagmiekeaaGreat.D
theorem open_coms {H : Type} {enc : TypeId × Value → H} {W : World} {base : Nat} {spare : Nat → Bool} {held : Bool} {a : Option Addr} {len cap : Nat} {d : DataW H} {ps : List MemPlace}
    (h : DataW.Trod enc Tryz.prog W base spare held 34 (.slice a len cap) d ps) :
    ∃ cls : List (List Chg), len = cls.length ∧ ComsAt W a cls ∧ ((d = .nil ∧ cls = []) ∨ ∃ (ds : List (DataW H)) (sp : List (DataW H)), d = .slice ds sp ∧ ds.length = cls.length ∧ ∀ i (h1 : i < ds.length) (h2 : i < cls.length), (ds[i] = .nil ∧ cls[i] = []) ∨ ∃ sp, ds[i] = .slice (cls[i].map dO) sp) := by
  obtain ⟨fuel, hf⟩ := h
  rcases open_slice1 Tryz.underlying34 (by kernel_rfl) hf with ⟨hcs, hx⟩ | ⟨ad, len', cap', m, n, V, D, Pl, hcs, _, hl, hm, hmm, hx, hi⟩
  · simp [Value.cells] at hcs
    obtain ⟨rfl, rfl, rfl⟩ := hcs
    obtain ⟨rfl, _⟩ := Prod.mk.inj hx
    exact ⟨[], rfl, fun i hi => absurd hi (Nat.not_lt_zero _), .inl ⟨rfl, rfl⟩⟩
  · simp [Value.cells] at hcs
    obtain ⟨rfl, rfl, rfl⟩ := hcs
    obtain ⟨hx, _⟩ := Prod.mk.inj hx
    subst hx
    have hlm : len ≤ m := by rw [hmm]; split; exact hl; exact Nat.le_refl _
    have each : ∀ i : Nat, ∃ l : List Chg, i < len → (∃ Ai ci, W.cell? (ad.add i) = some (.slice Ai l.length ci) ∧ ChAt W Ai l) ∧ ((D i = .nil ∧ l = []) ∨ ∃ sp, D i = .slice (l.map dO) sp) := by
      intro i
      by_cases hil : i < len
      · obtain ⟨hc, ht⟩ := hi i (by omega)
        obtain ⟨Ai, ni, ci, e⟩ := Go.Joins.slice_form Tryz.underlying31 ht
        have e1 := (List.cons.inj e).1
        rw [e1] at hc ht
        obtain ⟨l, rfl, h1, h2⟩ := open_opns (H := H) (d := D i) (ps := Pl i) ⟨n, by simpa [Value.cells] using ht⟩
        exact ⟨l, fun _ => ⟨⟨Ai, ci, hc, h1⟩, h2⟩⟩
      · exact ⟨[], fun h => absurd h hil⟩
    obtain ⟨g, hg⟩ := Classical.axiomOfChoice each
    refine ⟨(List.range len).map g, by simp, fun i hil => ?_, .inr ⟨(List.range len).map D, _, rfl, by simp, fun i h1 h2 => ?_⟩⟩
    · have hi2 : i < len := by simpa using hil
      obtain ⟨⟨Ai, ci, h1, h2⟩, -⟩ := hg i hi2
      have he : ((List.range len).map g)[i] = g i := by simp
      rw [he]
      exact ⟨ad, Ai, ci, rfl, h1, h2⟩
    · have hi2 : i < len := by simpa using h1
      have he : ((List.range len).map g)[i] = g i := by simp
      have hd : ((List.range len).map D)[i] = D i := by simp
      rw [he, hd]
      exact (hg i hi2).2
def wtC : List (List Chg) → Nat
  | [] => 0
  | l :: r => wtO l + 1 + wtC r
theorem wtC_of {H : Type} : ∀ (cls : List (List Chg)) (ds : List (DataW H)), ds.length = cls.length → (∀ i (h1 : i < ds.length) (h2 : i < cls.length), (ds[i] = .nil ∧ cls[i] = []) ∨ ∃ sp, ds[i] = .slice (cls[i].map dO) sp) → wtC cls ≤ Rows.uptoBulkAll ds
  | [], _, _, _ => Nat.zero_le _
  | l :: r, [], h, _ => by simp at h
  | l :: r, d :: ds, h, hh => by
    have ih := wtC_of r ds (by simpa using h) (fun i h1 h2 => by have := hh (i + 1) (by simpa using h1) (by simpa using h2); simpa using this)
    have h0 := hh 0 (by simp) (by simp)
    have h1 : wtO l + 1 ≤ Rows.uptoBulk d := by
      have h0' : (d = .nil ∧ l = []) ∨ ∃ sp, d = .slice (l.map dO) sp := h0
      rcases h0' with ⟨rfl, rfl⟩ | ⟨sp, rfl⟩
      · exact Nat.le_refl _
      · have := wtO_bulk (H := H) l
        simp only [Rows.uptoBulk]
        omega
    simp only [wtC, Rows.uptoBulkAll]
    omega
theorem wtC_all {H : Type} {d : DataW H} {cls : List (List Chg)} (h : (d = .nil ∧ cls = []) ∨ ∃ (ds : List (DataW H)) (sp : List (DataW H)), d = .slice ds sp ∧ ds.length = cls.length ∧ ∀ i (h1 : i < ds.length) (h2 : i < cls.length), (ds[i] = .nil ∧ cls[i] = []) ∨ ∃ sp, ds[i] = .slice (cls[i].map dO) sp) : wtC cls ≤ Rows.uptoBulk d := by
  rcases h with ⟨rfl, rfl⟩ | ⟨ds, sp, rfl, h1, h2⟩
  · exact Nat.zero_le _
  · have := wtC_of cls ds h1 h2
    simp only [Rows.uptoBulk]
    omega
theorem wtC_len : ∀ (l : List (List Chg)), l.length ≤ wtC l
  | [] => Nat.zero_le _
  | p :: ps => by have := wtC_len ps; simp only [List.length_cons, wtC]; omega
theorem wtC_tot : ∀ (l : List (List Chg)), tot l ≤ wtC l
  | [] => Nat.zero_le _
  | p :: ps => by have := wtC_tot ps; have := wtO_len p; simp only [tot, wtC, List.map_cons, List.sum_cons] at *; omega
theorem wtC_mem : ∀ (cls : List (List Chg)) (l : List Chg), l ∈ cls → ∀ c ∈ l, c.key.size ≤ wtC cls
  | q :: cls, l, h, c, hc => by
    simp only [wtC]
    rcases List.mem_cons.1 h with e | e
    · rw [e] at hc; have := wtO_mem q c hc; omega
    · have := wtC_mem cls l e c hc; omega
end Go.Proofs.YtjhgknagmiekeaaGreat.R
