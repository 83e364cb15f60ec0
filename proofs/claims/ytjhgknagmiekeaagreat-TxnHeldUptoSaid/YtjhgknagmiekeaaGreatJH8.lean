/- joined: G10 G13 TP15 Q2 G14 G15 H1 H2 H3 G16 H4 D4 H5 -/
import Derived.Shelf.SlIter.Nil
import Derived.Shelf.SortM.Plain
import Derived.Shelf.SortM.SortNone
import Derived.Shelf.SlLaysZ
import Derived.Shelf.SlLaysM
import Derived.Test.YtjhgknagmiekeaaGreatProg
import Derived.Test.YtjhgknagmiekeaaGreatJH7
import Derived.Test.YtjhgknagmiekeaaGreatJH5
import Derived.Test.YtjhgknagmiekeaaGreatJH4
import Derived.Sort.KeysCollected
import Derived.MapViews
import Derived.Stop.RegionWithIn
import Derived.RangeFuncBox
namespace Go.Proofs
open Go.Shelf
open Go.RowKit Go.Maps Go.Sort
def Tryz.keys169_ren : Go.Shelf.Ren := ⟨fun | 7 => 86 | 10 => 118 | n => n, fun | 23 => 115 | 26 => 9 | 3 => 3 | 28 => 177 | 0 => 0 | 27 => 176 | 33 => 105 | 4 => 4 | n => n, fun | n => n⟩
theorem Tryz.keys169 : Go.Proofs.SlLaysZ.n7 Tryz.prog Tryz.keys169_ren := {
  mixed := by kernel_rfl
  f7 := ⟨Tryz.f86.name, by decide, Tryz.func86.trans (congrArg some (by kernel_rfl))⟩
  f10 := ⟨Tryz.f118.name, by decide, Tryz.func118.trans (congrArg some (by kernel_rfl))⟩
  t0 := Tryz.underlying0
  a0 := Tryz.isAgg0
  z0 := Tryz.sizeOf0
  v0 := Tryz.zeroValue0
  t4 := Tryz.underlying4
  a4 := Tryz.isAgg4
  z4 := Tryz.sizeOf4
  v4 := Tryz.zeroValue4
  t23 := Tryz.underlying115
  a23 := Tryz.isAgg115
  z23 := Tryz.sizeOf115
  v23 := Tryz.zeroValue115
  t26 := Tryz.underlying9
  a26 := Tryz.isAgg9
  z26 := Tryz.sizeOf9
  v26 := Tryz.zeroValue9
  t27 := Tryz.underlying176
  a27 := Tryz.isAgg176
  z27 := Tryz.sizeOf176
  v27 := Tryz.zeroValue176
  t28 := Tryz.underlying177
  a28 := Tryz.isAgg177
  z28 := Tryz.sizeOf177
  v28 := Tryz.zeroValue177
  t33 := Tryz.underlying105
  a33 := Tryz.isAgg105
  z33 := Tryz.sizeOf105
  v33 := Tryz.zeroValue105 }
def Tryz.sorted168_ren : Go.Shelf.Ren := ⟨fun | 6 => 85 | 8 => 116 | 9 => 117 | 11 => 142 | 13 => 97 | 12 => 143 | 23 => 132 | 24 => 133 | 14 => 156 | 15 => 157 | 16 => 158 | 17 => 159 | 18 => 160 | 19 => 161 | 20 => 162 | 21 => 163 | 22 => 164 | 25 => 170 | 26 => 146 | 27 => 147 | 28 => 171 | 29 => 172 | 30 => 173 | 31 => 177 | n => n, fun | 26 => 9 | 28 => 177 | 24 => 22 | 0 => 0 | 3 => 3 | 37 => 186 | 48 => 93 | 50 => 27 | 4 => 4 | 40 => 208 | 39 => 207 | 45 => 42 | 5 => 5 | 9 => 9 | 51 => 221 | 55 => 224 | 57 => 237 | 58 => 238 | 33 => 105 | n => n, fun | n => n⟩
theorem Tryz.sorted168 : Go.Proofs.SlLaysZ.n6 Tryz.prog Tryz.sorted168_ren := {
  mixed := by kernel_rfl
  f6 := ⟨Tryz.f85.name, by decide, Tryz.func85.trans (congrArg some (by kernel_rfl))⟩
  f8 := ⟨Tryz.f116.name, by decide, Tryz.func116.trans (congrArg some (by kernel_rfl))⟩
  f11 := ⟨Tryz.f142.name, by decide, Tryz.func142.trans (congrArg some (by kernel_rfl))⟩
  t0 := Tryz.underlying0
  a0 := Tryz.isAgg0
  z0 := Tryz.sizeOf0
  v0 := Tryz.zeroValue0
  t24 := Tryz.underlying22
  a24 := Tryz.isAgg22
  z24 := Tryz.sizeOf22
  v24 := Tryz.zeroValue22
  t26 := Tryz.underlying9
  a26 := Tryz.isAgg9
  z26 := Tryz.sizeOf9
  v26 := Tryz.zeroValue9
  t28 := Tryz.underlying177
  a28 := Tryz.isAgg177
  z28 := Tryz.sizeOf177
  v28 := Tryz.zeroValue177
  i26 := by kernel_rfl }
def Tryz.sort185_ren : Go.Shelf.Ren := ⟨fun | 6 => 117 | 8 => 97 | 9 => 143 | 19 => 132 | 20 => 133 | 21 => 156 | 22 => 157 | 23 => 158 | 24 => 159 | 25 => 160 | 26 => 161 | 27 => 162 | 28 => 163 | 29 => 164 | 36 => 170 | 31 => 146 | 32 => 147 | 37 => 171 | 38 => 172 | 39 => 173 | 41 => 177 | n => n, fun | 27 => 22 | 29 => 9 | 3 => 3 | 32 => 186 | 26 => 22 | 0 => 0 | 44 => 93 | 46 => 27 | 4 => 4 | 36 => 208 | 35 => 207 | 41 => 42 | 5 => 5 | 9 => 9 | 53 => 221 | 57 => 224 | 63 => 237 | 64 => 238 | n => n, fun | n => n⟩
theorem Tryz.sort185 : Go.Proofs.SlLaysM.n6 Tryz.prog Tryz.sort185_ren := {
  mixed := by kernel_rfl
  f6 := ⟨Tryz.f117.name, by decide, Tryz.func117.trans (congrArg some (by kernel_rfl))⟩
  f8 := Tryz.func97.trans (congrArg some (by kernel_rfl))
  f9 := ⟨Tryz.f143.name, by decide, Tryz.func143.trans (congrArg some (by kernel_rfl))⟩
  f19 := Tryz.func132.trans (congrArg some (by kernel_rfl))
  f20 := Tryz.func133.trans (congrArg some (by kernel_rfl))
  f21 := ⟨Tryz.f156.name, by decide, Tryz.func156.trans (congrArg some (by kernel_rfl))⟩
  f22 := ⟨Tryz.f157.name, by decide, Tryz.func157.trans (congrArg some (by kernel_rfl))⟩
  f23 := ⟨Tryz.f158.name, by decide, Tryz.func158.trans (congrArg some (by kernel_rfl))⟩
  f24 := ⟨Tryz.f159.name, by decide, Tryz.func159.trans (congrArg some (by kernel_rfl))⟩
  f25 := ⟨Tryz.f160.name, by decide, Tryz.func160.trans (congrArg some (by kernel_rfl))⟩
  f26 := ⟨Tryz.f161.name, by decide, Tryz.func161.trans (congrArg some (by kernel_rfl))⟩
  f27 := ⟨Tryz.f162.name, by decide, Tryz.func162.trans (congrArg some (by kernel_rfl))⟩
  f28 := ⟨Tryz.f163.name, by decide, Tryz.func163.trans (congrArg some (by kernel_rfl))⟩
  f29 := ⟨Tryz.f164.name, by decide, Tryz.func164.trans (congrArg some (by kernel_rfl))⟩
  f31 := Tryz.func146.trans (congrArg some (by kernel_rfl))
  f32 := Tryz.func147.trans (congrArg some (by kernel_rfl))
  f36 := ⟨Tryz.f170.name, by decide, Tryz.func170.trans (congrArg some (by kernel_rfl))⟩
  f37 := ⟨Tryz.f171.name, by decide, Tryz.func171.trans (congrArg some (by kernel_rfl))⟩
  f38 := ⟨Tryz.f172.name, by decide, Tryz.func172.trans (congrArg some (by kernel_rfl))⟩
  f39 := ⟨Tryz.f173.name, by decide, Tryz.func173.trans (congrArg some (by kernel_rfl))⟩
  f41 := ⟨Tryz.f177.name, by decide, Tryz.func177.trans (congrArg some (by kernel_rfl))⟩
  t0 := Tryz.underlying0
  a0 := Tryz.isAgg0
  z0 := Tryz.sizeOf0
  v0 := Tryz.zeroValue0
  t3 := Tryz.underlying3
  a3 := Tryz.isAgg3
  z3 := Tryz.sizeOf3
  v3 := Tryz.zeroValue3
  t4 := Tryz.underlying4
  a4 := Tryz.isAgg4
  z4 := Tryz.sizeOf4
  v4 := Tryz.zeroValue4
  t5 := Tryz.underlying5
  a5 := Tryz.isAgg5
  z5 := Tryz.sizeOf5
  v5 := Tryz.zeroValue5
  t9 := Tryz.underlying9
  a9 := Tryz.isAgg9
  z9 := Tryz.sizeOf9
  v9 := Tryz.zeroValue9
  t26 := Tryz.underlying22
  a26 := Tryz.isAgg22
  z26 := Tryz.sizeOf22
  v26 := Tryz.zeroValue22
  t27 := Tryz.underlying22
  a27 := Tryz.isAgg22
  z27 := Tryz.sizeOf22
  v27 := Tryz.zeroValue22
  t29 := Tryz.underlying9
  a29 := Tryz.isAgg9
  z29 := Tryz.sizeOf9
  v29 := Tryz.zeroValue9
  t32 := Tryz.underlying186
  a32 := Tryz.isAgg186
  z32 := Tryz.sizeOf186
  v32 := Tryz.zeroValue186
  t35 := Tryz.underlying207
  a35 := Tryz.isAgg207
  z35 := Tryz.sizeOf207
  v35 := Tryz.zeroValue207
  t36 := Tryz.underlying208
  a36 := Tryz.isAgg208
  z36 := Tryz.sizeOf208
  v36 := Tryz.zeroValue208
  t41 := Tryz.underlying42
  a41 := Tryz.isAgg42
  z41 := Tryz.sizeOf42
  v41 := Tryz.zeroValue42
  t44 := Tryz.underlying93
  a44 := Tryz.isAgg93
  z44 := Tryz.sizeOf93
  v44 := Tryz.zeroValue93
  t46 := Tryz.underlying27
  a46 := Tryz.isAgg27
  z46 := Tryz.sizeOf27
  v46 := Tryz.zeroValue27
  t53 := Tryz.underlying221
  a53 := Tryz.isAgg221
  z53 := Tryz.sizeOf221
  v53 := Tryz.zeroValue221
  t57 := Tryz.underlying224
  a57 := Tryz.isAgg224
  z57 := Tryz.sizeOf224
  v57 := Tryz.zeroValue224
  t63 := Tryz.underlying237
  a63 := Tryz.isAgg237
  z63 := Tryz.sizeOf237
  v63 := Tryz.zeroValue237
  t64 := Tryz.underlying238
  a64 := Tryz.isAgg238
  z64 := Tryz.sizeOf238
  v64 := Tryz.zeroValue238 }
theorem Tryz.sorts168 (m : Nat) : AnyZ.SortsIn Tryz.prog Tryz.sorted168_ren Fence.wide m :=
  ⟨fun blk off cap ss W hH hblk hsz => callsIn_wide.2 (AnyM.slices_Sort_string Tryz.sort185 blk off cap ss W hH hblk hsz),
   fun p cap W => callsIn_wide.2 (AnyM.slices_Sort_string_none Tryz.sort185 p cap W)⟩
theorem Tryz.maps_Keys_169 (mb : Option Nat) (W : World) : CallsIn Fence.wide 5 Tryz.prog 86 #[.map mb] W fun e w' => e = .returned (.func (.func 118) #[] #[.pointer (some ⟨W.heap.size, 0, none⟩)]) ∧ w' = W.alloc (.cells #[.map mb] 115) :=
  AnyZ.keys_in Tryz.keys169 Fence.wide 5 trivial rfl mb W
set_option maxHeartbeats 1000000 in
theorem Tryz.slices_Sorted_keys_168_169 {H : Type} (b nn : Nat) (D0 : DataW H) (R : Value → Option (DataW H × List MemPlace)) (w : World) (hown : w.ownsMap Tryz.prog 9 R b nn D0) (hmax : Maps.size D0 ≤ maxLen) (hbytes : Maps.size D0 * 16 ≤ 140737488355328) :
    CallsIn Fence.wide 5 Tryz.prog 85 #[.func (.func 118) #[] #[.pointer (some ⟨w.heap.size, 0, none⟩)]] (w.alloc (.cells #[.map (some b)] 115)) fun e w' => ∃ (v : Value) (ss : List (List UInt8)), e = .returned v ∧ ss.Perm (strKeys D0) ∧
      w'.ownsRow (w.alloc (.cells #[.map (some b)] 115)).heap.size 9 1 v ss.length ((ss.mergeSort (fun x y => decide (x ≤ y))).map encStr) ∧ (v = .slice none 0 0 ↔ ss = []) ∧ Below (w.alloc (.cells #[.map (some b)] 115)).heap.size (w.alloc (.cells #[.map (some b)] 115)) w' := by
  have hbl := hown.lt
  have hseq : SeqGives Fence.wide 2 Tryz.prog 118 #[.pointer (some ⟨w.heap.size, 0, none⟩)] encStr (fun ss => ss.Perm (strKeys D0)) (Maps.size D0) (w.alloc (.cells #[.map (some b)] 115)) :=
    AnyZ.keys_gives (ρ := Tryz.keys169_ren) { Tryz.keys169 with } Fence.wide _ trivial rfl (by omega) w.heap.size b nn D0 _ (by simp) (by simp) (by
      obtain ⟨es, clock, hb, Ft, hs, hD⟩ := hown
      exact ⟨es, clock, (Below.heap_alloc _ _ b hbl).trans hb, Ft, hs, hD⟩)
  exact AnyZ.sorted_in Tryz.sorted168 Fence.wide 5 trivial trivial trivial trivial rfl (by omega) (Tryz.sorts168 _) (enters_of Tryz.func117 (by kernel_rfl) rfl) 118 #[.pointer (some ⟨w.heap.size, 0, none⟩)] trivial (enters_of Tryz.func118 (by kernel_rfl) rfl) _ _ hmax hbytes _ hseq
end Go.Proofs
set_option linter.unusedVariables false
set_option linter.unusedSimpArgs false
namespace Go.Proofs.YtjhgknagmiekeaaGreat.G
open Go.RowKit Go.Lib Go.Proofs Go.Conc Go.Maps Go.Sort Go.Shelf
open Go.Proofs.YtjhgknagmiekeaaGreatW.PrintWords hiding Kept
open Go.Proofs.YtjhgknagmiekeaaGreat.T (Nd NdAt ptr Tr L All valT wasV Lf Strs)
structure TxtRow (w : World) (v : Value) (ks : List ByteArray) : Prop where
  slice : ∃ A c, v = .slice A ks.length c ∧ Strs w A ks ∧ ∀ i (hi : i < ks.length), ∃ ad cs fr, A = some ad ∧ w.heap[ad.block]? = some (.cells cs 9 fr)
theorem txtRow_own {w : World} {B : Nat} {v : Value} {ks : List ByteArray} (h : w.ownsRow B 9 1 v ks.length (ks.map Value.string)) : TxtRow w v ks := by
  rcases h.2 with ⟨rfl, h2⟩ | ⟨g, cap, cur, rfl, hb, hg, hr⟩
  · exact ⟨none, 0, by rw [h2], fun i hi => by omega, fun i hi => by omega⟩
  · refine ⟨some ⟨g, 0, none⟩, cap, rfl, fun i hi => ⟨⟨g, 0, none⟩, rfl, ?_⟩, fun i hi => ⟨⟨g, 0, none⟩, cur, _, rfl, hg⟩⟩
    refine h.cells (g := g) rfl i _ ?_
    rw [List.getElem?_map, List.getElem?_eq_getElem hi]
    rfl
def txt (s : List UInt8) : ByteArray := ⟨s.toArray⟩
theorem L_txt (s : List UInt8) : L (txt s) = s := by simp [L, txt]
set_option maxRecDepth 100000 in
set_option maxHeartbeats 4000000 in
theorem txnTouched (w : World) (x b tx mb nn : Nat) (D : DataW Unit) (hx : TxnAt w x b tx mb false) (hm : Tch w mb nn D) (hnn : nn < 1000000000000) :
    Calls Tryz.prog 50 #[ptr x] w fun e w' => ∃ (v : Value) (ks : List ByteArray), e = .returned v ∧ TxtRow w' v ks ∧ (ks.map L).Perm (strKeys D) ∧ Below w.heap.size w w' := by
  have x2 : w.cell? ⟨x, 2, none⟩ = some (.map (some mb)) := by rw [blk_cell hx]; rfl
  have x3 : w.cell? ⟨x, 3, none⟩ = some (.bool false) := by rw [blk_cell hx]; rfl
  have hsz := hm.size_le
  have q1 := Aside0.mk ((callsIn_wide (n := 5)).1 (Tryz.maps_Keys_169 (some mb) w))
  have q2 := Aside0.mk ((callsIn_wide (n := 5)).1 (Tryz.slices_Sorted_keys_168_169 mb nn D (plainElem Tryz.prog 3) w hm (by unfold maxLen; omega) (by omega)))
  clear hx hm hsz hnn
  unfold ptr
  go_enter Tryz.func50, Tryz.ntmps50
  go_wp2_with (first | (go_at_call 86; refine q1.out.mono ?_; rintro e w' ⟨rfl, hw⟩; subst hw) | (go_at_call 85; refine q2.out.mono ?_; rintro e w' ⟨v, ss, rfl, hS, hrow, hnil, hb⟩))
  go_ret
  have hb0 : Below w.heap.size w (w.alloc (.cells #[.map (some mb)] 115)) := (Below.refl _ w).alloc (Nat.le_refl _) _
  refine ⟨v, (ss.mergeSort (fun x y => decide (x ≤ y))).map txt, rfl, txtRow_own (B := (w.alloc (.cells #[.map (some mb)] 115)).heap.size) ?_, ?_, T.belowAt hb0 hb⟩
  · rw [List.map_map, List.length_map, List.length_mergeSort]
    exact hrow
  · rw [List.map_map]
    have e1 : (ss.mergeSort (fun x y => decide (x ≤ y))).map (L ∘ txt) = ss.mergeSort (fun x y => decide (x ≤ y)) := by
      rw [show (L ∘ txt) = id from funext L_txt, List.map_id]
    rw [e1]
    exact (List.mergeSort_perm ss _).trans hS
end Go.Proofs.YtjhgknagmiekeaaGreat.G
set_option linter.unusedVariables false
set_option linter.unusedSimpArgs false
namespace Go.Proofs.YtjhgknagmiekeaaGreat.T
mutual
/-- the blocks of a tree's nodes -/
def bls : Nd → List Nat
  | .mk b _ _ kids _ => b :: blss kids
def blss : List Nd → List Nat
  | [] => []
  | n :: r => bls n ++ blss r
end
mutual
/-- how many nodes are not known, down to the known ones -/
def cntF (K : Nat → Bool) : Nd → Nat
  | .mk b _ _ kids _ => if K b = true then 0 else 1 + cntFs K kids
def cntFs (K : Nat → Bool) : List Nd → Nat
  | [] => 0
  | n :: r => cntF K n + cntFs K r
end
theorem bls_eq (n : Nd) : bls n = n.b :: blss n.kids := by cases n; rw [bls]; rfl
theorem cntF_eq (K : Nat → Bool) (n : Nd) : cntF K n = if K n.b = true then 0 else 1 + cntFs K n.kids := by cases n; rw [cntF]; rfl
theorem mem_blss {b : Nat} : ∀ {ks : List Nd}, b ∈ blss ks ↔ ∃ k ∈ ks, b ∈ bls k
  | [] => by rw [blss]; simp
  | n :: r => by
    rw [blss, List.mem_append, mem_blss (ks := r)]
    constructor
    · rintro (h | ⟨k, hk, h⟩)
      · exact ⟨n, by simp, h⟩
      · exact ⟨k, by simp [hk], h⟩
    · rintro ⟨k, hk, h⟩
      rcases List.mem_cons.1 hk with e | e
      · subst e; exact .inl h
      · exact .inr ⟨k, e, h⟩
def Kn (K : Nat → Bool) (n : Nd) : Prop := ∀ b ∈ bls n, K b = true
theorem Kn.self {K : Nat → Bool} {n : Nd} (h : Kn K n) : K n.b = true := h n.b (by rw [bls_eq]; simp)
theorem Kn.kid {K : Nat → Bool} {n : Nd} (h : Kn K n) {k : Nd} (hk : k ∈ n.kids) : Kn K k := fun b hb => h b (by rw [bls_eq]; exact List.mem_cons_of_mem _ (mem_blss.2 ⟨k, hk, hb⟩))
theorem Kn.zero {K : Nat → Bool} {n : Nd} (h : Kn K n) : cntF K n = 0 := by rw [cntF_eq, if_pos h.self]
end Go.Proofs.YtjhgknagmiekeaaGreat.T
set_option linter.unusedVariables false
set_option linter.unusedSimpArgs false
namespace Go.Proofs.YtjhgknagmiekeaaGreat.T
def wayL (k : ByteArray) : Nat → Option Nd → Nat → List (Nd × Nat)
  | 0, _, _ => []
  | _ + 1, none, _ => []
  | f + 1, some n, a => (n, a + n.label.size) :: wayL k f (downN n (k.extract (a + n.label.size) k.size)) (a + n.label.size)
theorem wayL_none (k : ByteArray) (f a : Nat) : wayL k f none a = [] := by cases f <;> rfl
theorem wayF_list {σ : Type} (step : σ → Nd → Nat → σ) (k : ByteArray) : ∀ (f : Nat) (o : Option Nd) (a : Nat) (s : σ), wayF step k f o a s = (wayL k f o a).foldl (fun s p => step s p.1 p.2) s
  | 0, _, _, _ => rfl
  | _ + 1, none, _, _ => rfl
  | f + 1, some n, a, s => by
    unfold wayF wayL
    rw [List.foldl_cons]
    exact wayF_list step k f _ _ _
def onR (n : Nd) (R : List UInt8) (b j : Nat) : Option (Nd × Nat) := (nodeT n (R.take j)).map fun x => (x, b + j)
theorem filterMap_head {β : Type} (g : Nat → Option β) (y : β) (A : Nat) (hA : 0 < A) (h0 : g 0 = some y) (h : ∀ j, 0 < j → j < A → g j = none) : (List.range A).filterMap g = [y] := by
  obtain ⟨m, rfl⟩ : ∃ m, A = m + 1 := ⟨A - 1, by omega⟩
  rw [List.range_succ_eq_map, List.filterMap_cons, h0]
  show y :: _ = _
  rw [List.filterMap_map]
  congr 1
  refine List.filterMap_eq_nil_iff.2 (fun j hj => ?_)
  have := List.mem_range.1 hj
  exact h (j + 1) (by omega) (by omega)
theorem fm_congr {α β : Type} {f g : α → Option β} : ∀ {l : List α}, (∀ x ∈ l, f x = g x) → l.filterMap f = l.filterMap g
  | [], _ => rfl
  | x :: l, h => by rw [List.filterMap_cons, List.filterMap_cons, h x List.mem_cons_self, fm_congr (fun y hy => h y (List.mem_cons_of_mem _ hy))]
theorem way_stop (n : Nd) (R : List UInt8) (b : Nat) (h : ∀ j, 0 < j → j ≤ R.length → nodeT n (R.take j) = none) : (List.range (R.length + 1)).filterMap (onR n R b) = [(n, b)] :=
  filterMap_head _ _ _ (by omega) (by unfold onR; rw [List.take_zero, nodeT_nil]; rfl) (fun j h1 h2 => by unfold onR; rw [h j h1 (by omega)]; rfl)
theorem way_nodes (k : ByteArray) : ∀ (f : Nat) (n : Nd) (a : Nat), Ok n → k.size + 1 < f + a + n.label.size → a + n.label.size ≤ k.size →
    wayL k f (some n) a = (List.range (((L k).drop (a + n.label.size)).length + 1)).filterMap (onR n ((L k).drop (a + n.label.size)) (a + n.label.size)) := by
  intro f
  induction f with
  | zero => intro n a _ h1 h2; omega
  | succ f ih =>
    intro n a ho h1 h2
    obtain ⟨a2, ea⟩ : ∃ a2, a + n.label.size = a2 := ⟨_, rfl⟩
    unfold wayL
    rw [ea]
    have hsz : (k.extract a2 k.size).size = k.size - a2 := by simp only [ByteArray.size_extract]; omega
    have hRl : ((L k).drop a2).length = k.size - a2 := by rw [List.length_drop, L_len]
    by_cases hend : a2 = k.size
    · have e1 : downN n (k.extract a2 k.size) = none := by unfold downN; rw [if_pos (by omega)]
      rw [e1, wayL_none]
      exact (way_stop n _ a2 (fun j h3 h4 => by omega)).symm
    · have e1 := downN_eq n ho (k.extract a2 k.size) (by omega)
      rw [L_tail] at e1
      obtain ⟨R, eR⟩ : ∃ R, (L k).drop a2 = R := ⟨_, rfl⟩
      rw [eR] at e1 hRl ⊢
      have hF : ∀ j, 0 < j → j ≤ R.length → nodeT n (R.take j) = (kidT n.kids (hd R)).bind (beneath (R.take j)) := fun j h3 h4 => by
        rw [nodeT_eq _ _ (fun e => by have := congrArg List.length e; rw [List.length_take, List.length_nil] at this; omega), hd_take R j h3]
      cases ek : kidT n.kids (hd R) with
      | none =>
        rw [ek] at e1 hF
        have e2 : downN n (k.extract a2 k.size) = none := e1
        rw [e2, wayL_none]
        exact (way_stop n R a2 (fun j h3 h4 => by rw [hF j h3 h4]; rfl)).symm
      | some m =>
        rw [ek] at e1 hF
        simp only [Option.bind_some] at e1 hF
        have hm := (kidT_some ek).1
        have hpos := ho.parts.2.1 m hm
        have hml : (L m.label).length = m.label.size := L_len _
        by_cases hp : L m.label <+: R
        · rw [if_pos hp] at e1
          have hle := hp.length_le
          rw [hml] at hle
          rw [e1]
          have hI := ih m a2 (ho.parts.2.2.get m hm) (by omega) (by omega)
          have eR2 : (L k).drop (a2 + m.label.size) = R.drop m.label.size := by rw [← eR, List.drop_drop]
          rw [eR2] at hI
          have hRd : (R.drop m.label.size).length = R.length - m.label.size := List.length_drop
          have hsmall : ∀ j, 0 < j → j < m.label.size → nodeT n (R.take j) = none := fun j h3 h4 => by
            rw [hF j h3 (by omega)]
            unfold beneath
            rw [if_neg (fun e => by have := e.2.length_le; rw [hml, List.length_take] at this; omega)]
          have hbig : ∀ j, j ≤ R.length - m.label.size → nodeT n (R.take (m.label.size + j)) = nodeT m ((R.drop m.label.size).take j) := fun j h3 => by
            rw [hF _ (by omega) (by omega)]
            unfold beneath
            have hpre : L m.label <+: R.take (m.label.size + j) := by
              obtain ⟨t, ht⟩ := hp
              rw [← ht, ← hml, List.take_length_add_append]
              exact List.prefix_append _ _
            rw [if_pos ⟨hpos, hpre⟩]
            congr 1
            rw [List.drop_take]
            congr 1
            omega
          obtain ⟨D, eD⟩ : ∃ D, (R.drop m.label.size).length + 1 = D := ⟨_, rfl⟩
          rw [hI, eD, show R.length + 1 = m.label.size + D from by omega, List.range_add, List.filterMap_append, filterMap_head (onR n R a2) (n, a2) m.label.size hpos (by unfold onR; rw [List.take_zero, nodeT_nil]; rfl) (fun j h3 h4 => by unfold onR; rw [hsmall j h3 h4]; rfl), List.filterMap_map]
          show _ :: _ = _ :: _
          congr 1
          refine fm_congr (fun j hj => ?_)
          have hj2 := List.mem_range.1 hj
          show onR m _ _ j = onR n R a2 (m.label.size + j)
          unfold onR
          rw [hbig j (by omega), Nat.add_assoc]
        · rw [if_neg hp] at e1
          rw [e1, wayL_none]
          refine (way_stop n R a2 (fun j h3 h4 => ?_)).symm
          rw [hF j h3 h4]
          unfold beneath
          rw [if_neg (fun e => hp (e.2.trans (List.take_prefix _ _)))]
theorem way_root {root : Nd} (h : Good root) (k : ByteArray) : wayL k (k.size + 2) (some root) 0 = (List.range (k.size + 1)).filterMap (onR root (L k) 0) := by
  have h1 := way_nodes k (k.size + 2) root 0 h.ok (by omega) (by have := h.top; omega)
  rw [h.top] at h1
  simp only [Nat.zero_add, List.drop_zero] at h1
  rw [h1, L_len]
theorem last_on (n : Nd) (R : List UInt8) : ∀ N : Nat, ∃ r, ((List.range (N + 1)).filterMap (onR n R 0)).foldl (fun _ p => p.2) 0 = r ∧ r ≤ N ∧ nodeT n (R.take r) ≠ none ∧ ∀ j, r < j → j ≤ N → nodeT n (R.take j) = none
  | 0 => ⟨0, by
    have e : (List.range (0 + 1)).filterMap (onR n R 0) = [(n, 0)] := filterMap_head _ _ _ (by omega) (by unfold onR; rw [List.take_zero, nodeT_nil]; rfl) (fun j h1 h2 => by omega)
    rw [e]; rfl, Nat.le_refl _, by rw [List.take_zero, nodeT_nil]; simp, fun j h1 h2 => by omega⟩
  | N + 1 => by
    obtain ⟨r, h1, h2, h3, h4⟩ := last_on n R N
    rw [List.range_succ, List.filterMap_append, List.foldl_append, h1]
    cases e : nodeT n (R.take (N + 1)) with
    | none =>
      refine ⟨r, ?_, by omega, h3, fun j h5 h6 => ?_⟩
      · rw [List.filterMap_cons, show onR n R 0 (N + 1) = none from by unfold onR; rw [e]; rfl]; rfl
      · by_cases h7 : j = N + 1
        · rw [h7]; exact e
        · exact h4 j h5 (by omega)
    | some x =>
      refine ⟨N + 1, ?_, Nat.le_refl _, by rw [e]; simp, fun j h5 h6 => by omega⟩
      rw [List.filterMap_cons, show onR n R 0 (N + 1) = some (x, N + 1) from by unfold onR; rw [e, Nat.zero_add]; rfl]; rfl
theorem reach_eq {root : Nd} (h : Good root) (k : ByteArray) : reachN root k ≤ k.size ∧ nodeT root ((L k).take (reachN root k)) ≠ none ∧ ∀ j, reachN root k < j → j ≤ k.size → nodeT root ((L k).take j) = none := by
  obtain ⟨r, h1, h2, h3, h4⟩ := last_on root (L k) k.size
  have e : reachN root k = r := by
    unfold reachN
    rw [wayF_list, way_root h, ← h1]
    rfl
  rw [e]
  exact ⟨h2, h3, h4⟩
end Go.Proofs.YtjhgknagmiekeaaGreat.T
set_option linter.unusedVariables false
set_option linter.unusedSimpArgs false
namespace Go.Proofs.YtjhgknagmiekeaaGreat.G
open Go.RowKit Go.Lib Go.Proofs Go.Conc Go.Maps
open Go.Proofs.YtjhgknagmiekeaaGreatW.PrintWords hiding Kept
open Go.Proofs.YtjhgknagmiekeaaGreat.T (Nd NdAt ptr Tr L All valT wasV Lf Strs wayL wayF)
def CellsOf (w : World) (q : TypeId → Bool) (p : Nat → Prop) : Prop := ∀ k, p k → ∃ cs t fr, w.heap[k]? = some (.cells cs t fr) ∧ q t = true
theorem Only.farP {p : Nat → Prop} {q : TypeId → Bool} {w w' : World} (h : Only p w w') (hp : CellsOf w q p) : FarP q w w' := fun b cs t fr hb ht => h.at hb (fun e => by
  obtain ⟨cs', t', fr', h1, h2⟩ := hp b e
  rw [hb] at h1
  injection h1 with e1
  injection e1 with _ e2 _
  rw [e2, h2] at ht
  cases ht)
theorem Only.watch {p : Nat → Prop} {q : TypeId → Bool} {w w' : World} (h : Only p w w') (hp : CellsOf w q p) (h154 : q 153 = false) {c : Nat} {d : Bool} (hw : WatchAt w (c + 1) c d) : WatchAt w' (c + 1) c d :=
  ⟨h.farP hp _ _ _ _ hw.obj h154, h.at hw.ch (fun e => by
    obtain ⟨cs', t', fr', h1, h2⟩ := hp c e
    rw [hw.ch] at h1
    cases h1)⟩
theorem MkAt.imp {w w' : World} (h : ∀ c d, WatchAt w (c + 1) c d → ∃ d', WatchAt w' (c + 1) c d') {m : Value} (hm : MkAt w m) : MkAt w' m := by
  obtain ⟨c, d, e, hw⟩ := hm
  obtain ⟨d', hw'⟩ := h c d hw
  exact ⟨c, d', e, hw'⟩
theorem TxtRow.far {p : TypeId → Bool} (h9 : p 9 = false) {w w' : World} (h : FarP p w w') {v : Value} {ks : List ByteArray} (ht : TxtRow w v ks) : TxtRow w' v ks := by
  obtain ⟨A, c, e, hs, hb⟩ := ht.slice
  exact ⟨A, c, e, strs_far h9 h hb hs, fun i hi => by
    obtain ⟨ad, cs, fr, e1, e2⟩ := hb i hi
    exact ⟨ad, cs, fr, e1, h _ _ _ _ e2 h9⟩⟩
theorem fold_shoot (w0 : World) : ∀ (l : List Nat) (s : (Nat → Bool) × Int) (x : Nat), (l.foldl (shootC w0) s).1 x = true → s.1 x = true ∨ x ∈ l
  | [], s, x, h => .inl h
  | c :: l, s, x, h => by
    rcases fold_shoot w0 l (shootC w0 s c) x h with h1 | h1
    · have h2 : (s.1 x || x == c) = true := h1
      rw [Bool.or_eq_true] at h2
      rcases h2 with h2 | h2
      · exact .inl h2
      · exact .inr (by rw [beq_iff_eq.1 h2]; exact List.mem_cons_self)
    · exact .inr (List.mem_cons_of_mem _ h1)
theorem marksOn_mks {k : ByteArray} {n : Nd} {a x : Nat} (h : x ∈ marksOn k n a) : ∃ m ∈ mks n, chOf m = x := by
  unfold marksOn at h
  rcases List.mem_cons.1 h with h | h
  · exact ⟨n.mark, mks_mark n, h.symm⟩
  · split at h
    · cases e : n.leaf with
      | none => rw [e] at h; cases h
      | some l =>
        rw [e] at h
        have h2 : x = chOf l.mark := by simpa using h
        exact ⟨l.mark, mks_leaf e, h2.symm⟩
    · cases h
theorem wayL_mks (k : ByteArray) (root : Nd) : ∀ (f : Nat) (o : Option Nd) (a : Nat), (∀ n, o = some n → ∀ m ∈ mks n, m ∈ mks root) → ∀ p ∈ wayL k f o a, ∀ m ∈ mks p.1, m ∈ mks root
  | 0, _, _, _, p, hp, _, _ => by unfold wayL at hp; cases hp
  | _ + 1, none, _, _, p, hp, _, _ => by unfold wayL at hp; cases hp
  | f + 1, some n, a, h, p, hp, m, hm => by
    unfold wayL at hp
    rcases List.mem_cons.1 hp with e | e
    · rw [e] at hm; exact h n rfl m hm
    · refine wayL_mks k root f _ _ (fun x hx m' hm' => ?_) p e m hm
      exact h n rfl m' (mks_kid (T.downN_some hx).1 hm')
theorem fold_way (w0 : World) (k : ByteArray) (root : Nd) : ∀ (l : List (Nd × Nat)) (s : (Nat → Bool) × Int) (x : Nat), (∀ p ∈ l, ∀ m ∈ mks p.1, m ∈ mks root) → (l.foldl (fun s p => stepW w0 k s p.1 p.2) s).1 x = true → s.1 x = true ∨ ∃ m ∈ mks root, chOf m = x
  | [], s, x, _, h => .inl h
  | p :: l, s, x, hl, h => by
    rcases fold_way w0 k root l _ x (fun q hq => hl q (List.mem_cons_of_mem _ hq)) h with h1 | h1
    · rcases fold_shoot w0 _ s x h1 with h2 | h2
      · exact .inl h2
      · obtain ⟨m, h3, h4⟩ := marksOn_mks h2
        exact .inr ⟨m, hl p List.mem_cons_self m h3, h4⟩
    · exact .inr h1
theorem fireK_mks (w0 : World) (root : Nd) (s : (Nat → Bool) × Int) (k : ByteArray) (x : Nat) (h : (fireK w0 root s k).1 x = true) : s.1 x = true ∨ ∃ m ∈ mks root, chOf m = x := by
  unfold fireK at h
  rw [T.wayF_list] at h
  exact fold_way w0 k root _ s x (wayL_mks k root _ _ _ (fun n e m hm => by cases e; exact hm)) h
theorem fold_fire (w0 : World) (root : Nd) : ∀ (ks : List ByteArray) (s : (Nat → Bool) × Int) (x : Nat), (ks.foldl (fireK w0 root) s).1 x = true → s.1 x = true ∨ ∃ m ∈ mks root, chOf m = x
  | [], s, x, h => .inl h
  | k :: ks, s, x, h => by
    rcases fold_fire w0 root ks _ x h with h1 | h1
    · exact fireK_mks w0 root s k x h1
    · exact .inr h1
theorem fireAll_mks (w0 : World) (root : Nd) (ks : List ByteArray) (x : Nat) (h : (fireAll w0 root ks).1 x = true) : ∃ m ∈ mks root, chOf m = x := by
  rcases fold_fire w0 root ks _ x h with h1 | h1
  · cases h1
  · exact h1
end Go.Proofs.YtjhgknagmiekeaaGreat.G
set_option linter.unusedVariables false
set_option linter.unusedSimpArgs false
namespace Go.Proofs.YtjhgknagmiekeaaGreat.G
open Go.RowKit Go.Lib Go.Proofs Go.Conc Go.Maps
open Go.Proofs.YtjhgknagmiekeaaGreatW.PrintWords hiding Kept
open Go.Proofs.YtjhgknagmiekeaaGreatW.PrintLast
open Go.Proofs.YtjhgknagmiekeaaGreat.T (Nd NdAt ptr Tr L All valT wasV Lf Strs)
theorem FarP.mono {p q : TypeId → Bool} {w w' : World} (h : FarP p w w') (hq : ∀ t, q t = false → p t = false) : FarP q w w' := fun b cs t fr hb ht => h b cs t fr hb (hq t ht)
def tXB (t : TypeId) : Bool := t == 117 || t == 99
def tAll (t : TypeId) : Bool := t == 117 || t == 99 || t == 153
def FarD (w w' : World) : Prop := ∀ (k : Nat) (d : Option (List Deferred)), w.heap[k]? = some (.deferred d) → w'.heap[k]? = some (.deferred d)
theorem FarD.trans {a b c : World} (h : FarD a b) (k : FarD b c) : FarD a c := fun i d hi => k i d (h i d hi)
theorem FarD.of {w w' : World} (h : Below w.heap.size w w') : FarD w w' := fun i d hi => (h.block i (Array.getElem?_eq_some_iff.1 hi).1).trans hi
theorem Only.farD {p : Nat → Prop} {q : TypeId → Bool} {w w' : World} (h : Only p w w') (hp : CellsOf w q p) : FarD w w' := fun i d hi => h.at hi (fun e => by
  obtain ⟨cs, t, fr, h1, -⟩ := hp i e
  rw [hi] at h1
  cases h1)
theorem Shot.farD {w w' : World} {S : Nat → Bool} (h : Shot w w' S) : FarD w w' := fun i d hi => by
  refine (h.far i (Array.getElem?_eq_some_iff.1 hi).1 (fun c d' hw _ => ⟨fun e => ?_, fun e => ?_⟩)).trans hi
  · have h1 := hw.obj
    rw [← e, hi] at h1
    cases h1
  · have h1 := hw.ch
    rw [← e, hi] at h1
    cases h1
structure Done (w w' : World) (b x tb tx : Nat) (n : Int) (root : Nd) (D : DataW Unit) (cnt : Int) : Prop where
  base : ∃ v', BaseAt w' b v' tx (n + 1) false
  far : FarP tAll w w'
  watch : ∀ c d, WatchAt w (c + 1) c d → ∃ d', WatchAt w' (c + 1) c d'
  count : ∃ (W : World) (ks : List ByteArray), (∀ c d, WatchAt w (c + 1) c d → WatchAt W (c + 1) c d) ∧ (ks.map L).Perm (strKeys D) ∧ cnt = (fireAll W root ks).2
  below : ∀ B, B ≤ w.heap.size → B ≤ x → B ≤ b → (∀ m ∈ mks root, B ≤ chOf m) → Below B w w'
  size : w.heap.size ≤ w'.heap.size
  defr : FarD w w'
  shot : ∃ (W : World) (ks : List ByteArray), (∀ c d, WatchAt w (c + 1) c d → WatchAt W (c + 1) c d) ∧ (ks.map L).Perm (strKeys D) ∧ ∀ c d, WatchAt w (c + 1) c d → WatchAt w' (c + 1) c (d || (fireAll W root ks).1 c)
def cm9_T : Bool × List (List Nat × List Nat) := (true, [([], []), ([0], [0]), ([1], [1]), ([2], [2]), ([3], [3]), ([4], [4]), ([], []), ([6], [6]), ([7], [7]), ([8], [8]), ([], []), ([10], [10]), ([11], [11]), ([12], [12]), ([13], [13]), ([9, 14], [9, 14]), ([15], [15]), ([5, 16], [5, 16])])
def cm9_B : List Nat := [0, 1, 3, 7, 15, 31, 0, 64, 192, 448, 0, 1024, 3072, 7168, 15360, 32704, 65472, 131071]
theorem cm9_bits : waitsOk cm9_T.2 cm9_B = true := by kernel_rfl
theorem cm9_tab : rtab .any (opsOf Tryz.f30 9) = cm9_T := by kernel_rfl
attribute [local go_sem] Oper.semAt_some
set_option maxRecDepth 100000 in
set_option maxHeartbeats 4000000 in
theorem txnCommit (w : World) (x b v tb tx mb nn : Nat) (n : Int) (D : DataW Unit) (root : Nd) (hb : BaseAt w b v tb n true) (hx : TxnAt w x b tx mb false) (hm : Tch w mb nn D) (hnn : nn < 1000000000000) (ht : Tr w tb root) (hM : Mks w root) (hD : ∀ s ∈ strKeys D, s.length < 4000000000000) (hne : strKeys D ≠ []) (hn0 : 0 ≤ n) (hn1 : n < 1000000000000) :
    Calls Tryz.prog 30 #[ptr x] w fun e w' => ∃ cnt : Int, e = .returned (.tuple #[.int .i64 cnt, .int .i64 0]) ∧ Done w w' b x tb tx n root D cnt := by
  have hlen : (strKeys D).length < 1000000000000 := by
    obtain ⟨es, cl, -, -, -, e⟩ := id hm
    have h9 := hm.size_le
    rw [e] at h9 ⊢
    unfold strKeys
    rw [List.length_map]
    exact Nat.lt_of_le_of_lt h9 hnn
  have q1 := Aside0.mk (txnTouched w x b tx mb nn D hx hm hnn)
  have x3 : w.cell? ⟨x, 3, none⟩ = some (.bool false) := by rw [blk_cell hx]; rfl
  have HH := Aside0.mk (And.intro hb (And.intro hx (And.intro ht (And.intro hM (And.intro hD (And.intro hne hlen))))))
  have hnot : ∀ (x : Bool) (w : World), (Op.unary .not (.bool x)).run Tryz.prog w = .ok (.bool (!x)) w := fun _ _ => rfl
  clear hb hx hm hnn ht hM hD hne hlen
  unfold ptr at q1 ⊢
  go_enter_defers Tryz.func30, Tryz.ntmps30
  go_wp2_with fail
  go_at_call 50
  refine q1.out.mono ?_
  rintro e w1 ⟨vv, ks, rfl, hrow, hperm, hb1⟩
  have hx1 := (hb1.block _ (Array.getElem?_eq_some_iff.1 HH.out.2.1).1).trans HH.out.2.1
  have y0 : w1.cell? ⟨x, 0, none⟩ = some (.pointer (some ⟨b, 0, none⟩)) := by rw [blk_cell hx1]; rfl
  have y3 : w1.cell? ⟨x, 3, none⟩ = some (.bool false) := by rw [blk_cell hx1]; rfl
  have g3 : w1.frozen? ⟨x, 3, none⟩ = false := blk_frozen hx1 3
  have H1 := Aside0.mk (And.intro hrow (And.intro hperm (And.intro hb1 hx1)))
  obtain ⟨A, c, rfl, hstr, hty⟩ := hrow.slice
  have hkl : ks.length = (strKeys D).length := by rw [← hperm.length_eq, List.length_map]
  obtain ⟨N, eN⟩ : ∃ N, ks.length = N + 1 := ⟨ks.length - 1, by have := List.length_pos_iff.2 HH.out.2.2.2.2.2.1; omega⟩
  have HN := Aside0.mk eN
  have hNl : N < 1000000000000 := by have := HH.out.2.2.2.2.2.2; omega
  rw [eN]
  clear hrow hperm hb1 hx1 hstr hty q1 x3 hkl eN
  go_upto_region 5 with fail
  obtain ⟨W2, eW2⟩ : ∃ W2, w1.setCell ⟨x, 3, none⟩ (.bool true) = W2 := ⟨_, rfl⟩
  have ho2 : Only (fun k => k = x) w W2 := by rw [← eW2]; exact (Only.of (p := fun k => k = x) H1.out.2.2.1).put x 3 (.inl rfl) _
  have hx2 : TxnAt W2 x b tx mb true := by rw [← eW2]; exact set_atG H1.out.2.2.2 3 _
  have hcx : CellsOf w (fun t => t == 117) (fun k => k = x) := fun k e => by rw [e]; exact ⟨_, _, _, HH.out.2.1, rfl⟩
  have hb2 : BaseAt W2 b v tb n true := ⟨ho2.farP hcx _ _ _ _ HH.out.1.base rfl, ho2.farP hcx _ _ _ _ HH.out.1.ver rfl⟩
  have hrow2 : TxtRow W2 (.slice A ks.length c) ks := by
    have h1 : TxtRow w1 (.slice A ks.length c) ks := H1.out.1
    have h2 : FarP (fun t => t == 117) w1 W2 := by
      rw [← eW2]
      have h3 : Only (fun k => k = x) w1 (w1.setCell ⟨x, 3, none⟩ (.bool true)) := (Only.refl (fun k => k = x) w1).put x 3 (.inl rfl) _
      exact h3.farP (fun k e => by rw [e]; exact ⟨_, _, _, H1.out.2.2.2, rfl⟩)
    exact h1.far rfl h2
  have x0 : W2.cell? ⟨x, 0, none⟩ = some (.pointer (some ⟨b, 0, none⟩)) := by rw [blk_cell hx2]; rfl
  have x1 : W2.cell? ⟨x, 1, none⟩ = some (.pointer (some ⟨tx, 0, none⟩)) := by rw [blk_cell hx2]; rfl
  have v1 : W2.cell? ⟨v, 1, none⟩ = some (.int .u64 n) := by rw [blk_cell hb2.ver]; rfl
  have q2 := Aside0.mk (loadPtr b v _ _ W2 (by rw [blk_cell hb2.base]; rfl) hb2.ver)
  have H2 := Aside0.mk (And.intro ho2 (And.intro hx2 (And.intro hb2 (And.intro hrow2 hcx))))
  rw [eW2]
  clear y0 y3 g3 ho2 hx2 hcx hb2 hrow2 eW2
  have hNe : ¬ ((N + 1 : Nat) : Int) = 0 := by omega
  have hwr : IntKind.u64.wrap (n + 1) = n + 1 := by rw [IntKind.wrap_u64]; omega
  unfold ptr at q2
  go_wp2_with (first | (go_at_call 36; refine q2.out.mono ?_; rintro e w' ⟨rfl, hw⟩; subst hw))
  refine Code.wp_mono NoPanic.imp ?_
  refine start_ (n := 18) (S := (fun Z => Z.cell? ⟨x, 0, none⟩ = some (.pointer (some ⟨b, 0, none⟩)) ∧ Z.cell? ⟨x, 1, none⟩ = some (.pointer (some ⟨tx, 0, none⟩)) ∧ Z.cell? ⟨v, 1, none⟩ = some (.int .u64 n))) (ds := [17]) #[false, false, false, false, false, false, false, false, false, false, false, false, false, false, false, false, false, false] (by kernel_rfl) rfl rfl ⟨x0, x1, v1⟩ (fun hHeld => ?_); refine with_tabW cm9_tab cm9_bits (fun HT_ HW_ => ?_)
  refine pure_ (i := 0) (N := some 31) (v := ?_) (a' := ?_) #[true, false, false, false, false, false, false, false, false, false, false, false, false, false, false, false, false, false] rfl rfl (any_of HT_.out (by kernel_rfl)) (fun _ _ _ h => h) (Or.inl ⟨by rfl, ?_⟩) ?_ ?_
  rotate_left
  · intro w'
    go_simp
    with_reducible rfl
  rotate_left
  · simp only [Act.put, List.setIfInBounds_toArray, List.set_cons_zero, List.set_cons_succ, i64_w, i32_w]
    rfl
  refine pure_ (i := 1) (N := some 32) (v := ?_) (a' := ?_) #[true, true, false, false, false, false, false, false, false, false, false, false, false, false, false, false, false, false] rfl rfl (any_of HT_.out (by kernel_rfl)) (fun _ _ _ h => h) (Or.inl ⟨by rfl, ?_⟩) ?_ ?_
  rotate_left
  · intro w'
    go_simp
    with_reducible rfl
  rotate_left
  · simp only [Act.put, List.setIfInBounds_toArray, List.set_cons_zero, List.set_cons_succ, i64_w, i32_w]
    rfl
  refine pure_ (i := 2) (N := some 33) (v := ?_) (a' := ?_) #[true, true, true, false, false, false, false, false, false, false, false, false, false, false, false, false, false, false] rfl rfl (any_of HT_.out (by kernel_rfl)) (fun _ _ _ h => h) (Or.inl ⟨by rfl, ?_⟩) ?_ ?_
  rotate_left
  · intro w'
    go_simp
    with_reducible rfl
  rotate_left
  · simp only [Act.put, List.setIfInBounds_toArray, List.set_cons_zero, List.set_cons_succ, i64_w, i32_w]
    rfl
  refine pure_ (i := 6) (N := some 37) (v := ?_) (a' := ?_) #[true, true, true, false, false, false, true, false, false, false, false, false, false, false, false, false, false, false] rfl rfl (any_of HT_.out (by kernel_rfl)) (fun _ _ _ h => h) (Or.inl ⟨by rfl, ?_⟩) ?_ ?_
  rotate_left
  · intro w'
    go_simp
    with_reducible rfl
  rotate_left
  · simp only [Act.put, List.setIfInBounds_toArray, List.set_cons_zero, List.set_cons_succ, i64_w, i32_w]
    rfl
  refine pure_ (i := 7) (N := some 38) (v := ?_) (a' := ?_) #[true, true, true, false, false, false, true, true, false, false, false, false, false, false, false, false, false, false] rfl rfl (any_of HT_.out (by kernel_rfl)) (fun _ _ _ h => h) (Or.inl ⟨by rfl, ?_⟩) ?_ ?_
  rotate_left
  · intro w'
    go_simp
    with_reducible rfl
  rotate_left
  · simp only [Act.put, List.setIfInBounds_toArray, List.set_cons_zero, List.set_cons_succ, i64_w, i32_w]
    rfl
  refine pure_ (i := 8) (N := some 39) (v := ?_) (a' := ?_) #[true, true, true, false, false, false, true, true, true, false, false, false, false, false, false, false, false, false] rfl rfl (any_of HT_.out (by kernel_rfl)) (fun _ _ _ h => h) (Or.inl ⟨by rfl, ?_⟩) ?_ ?_
  rotate_left
  · intro w'
    go_simp
    with_reducible rfl
  rotate_left
  · simp only [Act.put, List.setIfInBounds_toArray, List.set_cons_zero, List.set_cons_succ, i64_w, i32_w]
    rfl
  refine pure_ (i := 10) (N := some 41) (v := ?_) (a' := ?_) #[true, true, true, false, false, false, true, true, true, false, true, false, false, false, false, false, false, false] rfl rfl (any_of HT_.out (by kernel_rfl)) (fun _ _ _ h => h) (Or.inl ⟨by rfl, ?_⟩) ?_ ?_
  rotate_left
  · intro w'
    go_simp
    with_reducible rfl
  rotate_left
  · simp only [Act.put, List.setIfInBounds_toArray, List.set_cons_zero, List.set_cons_succ, i64_w, i32_w]
    rfl
  refine pure_ (i := 11) (N := some 42) (v := ?_) (a' := ?_) #[true, true, true, false, false, false, true, true, true, false, true, true, false, false, false, false, false, false] rfl rfl (any_of HT_.out (by kernel_rfl)) (fun _ _ _ h => h) (Or.inl ⟨by rfl, ?_⟩) ?_ ?_
  rotate_left
  · intro w'
    go_simp
    with_reducible rfl
  rotate_left
  · simp only [Act.put, List.setIfInBounds_toArray, List.set_cons_zero, List.set_cons_succ, i64_w, i32_w]
    rfl
  refine pure_ (i := 12) (N := some 43) (v := ?_) (a' := ?_) #[true, true, true, false, false, false, true, true, true, false, true, true, true, false, false, false, false, false] rfl rfl (any_of HT_.out (by kernel_rfl)) (fun _ _ _ h => h) (Or.inl ⟨by rfl, ?_⟩) ?_ ?_
  rotate_left
  · intro w'
    go_simp
    with_reducible rfl
  rotate_left
  · simp only [Act.put, List.setIfInBounds_toArray, List.set_cons_zero, List.set_cons_succ, i64_w, i32_w]
    rfl
  refine take_ (i := 3) (N := some 34) (v := ?_) (a' := ?_) #[true, true, true, true, false, false, true, true, true, false, true, true, true, false, false, false, false, false] rfl rfl (take_ofW HT_.out HW_.out (by kernel_rfl)) (fun _ _ _ h => h) (Or.inl ⟨by rfl, ?_⟩) hHeld ?_ ?_
  rotate_left
  · rintro w' ⟨s0, s1, s2⟩
    go_simp
    with_reducible rfl
  rotate_left
  · simp only [Act.put, List.setIfInBounds_toArray, List.set_cons_zero, List.set_cons_succ, i64_w, i32_w]
    rfl
  refine take_ (i := 9) (N := some 40) (v := ?_) (a' := ?_) #[true, true, true, true, false, false, true, true, true, true, true, true, true, false, false, false, false, false] rfl rfl (take_ofW HT_.out HW_.out (by kernel_rfl)) (fun _ _ _ h => h) (Or.inl ⟨by rfl, ?_⟩) hHeld ?_ ?_
  rotate_left
  · rintro w' ⟨s0, s1, s2⟩
    go_simp
    with_reducible rfl
  rotate_left
  · simp only [Act.put, List.setIfInBounds_toArray, List.set_cons_zero, List.set_cons_succ, i64_w, i32_w]
    rfl
  refine take_ (i := 13) (N := some 44) (v := ?_) (a' := ?_) #[true, true, true, true, false, false, true, true, true, true, true, true, true, true, false, false, false, false] rfl rfl (take_ofW HT_.out HW_.out (by kernel_rfl)) (fun _ _ _ h => h) (Or.inl ⟨by rfl, ?_⟩) hHeld ?_ ?_
  rotate_left
  · rintro w' ⟨s0, s1, s2⟩
    go_simp
    with_reducible rfl
  rotate_left
  · simp only [Act.put, List.setIfInBounds_toArray, List.set_cons_zero, List.set_cons_succ, i64_w, i32_w]
    rfl
  refine pure_ (i := 4) (N := some 35) (v := ?_) (a' := ?_) #[true, true, true, true, true, false, true, true, true, true, true, true, true, true, false, false, false, false] rfl rfl (any_of HT_.out (by kernel_rfl)) (fun _ _ _ h => h) (Or.inl ⟨by rfl, ?_⟩) ?_ ?_
  rotate_left
  · intro w'
    go_simp
    with_reducible rfl
  rotate_left
  · simp only [Act.put, List.setIfInBounds_toArray, List.set_cons_zero, List.set_cons_succ, i64_w, i32_w]
    rfl
  refine pure_ (i := 5) (N := some 36) (v := ?_) (a' := ?_) #[true, true, true, true, true, true, true, true, true, true, true, true, true, true, false, false, false, false] rfl rfl (any_of HT_.out (by kernel_rfl)) (fun _ _ _ h => h) (Or.inl ⟨by rfl, ?_⟩) ?_ ?_
  rotate_left
  · intro w'
    go_simp
    with_reducible rfl
  rotate_left
  · simp only [Act.put, List.setIfInBounds_toArray, List.set_cons_zero, List.set_cons_succ, i64_w, i32_w]
    rfl
  refine pure_ (i := 14) (N := some 45) (v := ?_) (a' := ?_) #[true, true, true, true, true, true, true, true, true, true, true, true, true, true, true, false, false, false] rfl rfl (any_of HT_.out (by kernel_rfl)) (fun _ _ _ h => h) (Or.inl ⟨by rfl, ?_⟩) ?_ ?_
  rotate_left
  · intro w'
    go_simp
    with_reducible rfl
  rotate_left
  · simp only [Act.put, List.setIfInBounds_toArray, List.set_cons_zero, List.set_cons_succ, i64_w, i32_w]
    rfl
  refine pure_ (i := 15) (N := some 46) (v := ?_) (a' := ?_) #[true, true, true, true, true, true, true, true, true, true, true, true, true, true, true, true, false, false] rfl rfl (any_of HT_.out (by kernel_rfl)) (fun _ _ _ h => h) (Or.inl ⟨by rfl, ?_⟩) ?_ ?_
  rotate_left
  · intro w'
    go_simp
    with_reducible rfl
  rotate_left
  · simp only [Act.put, List.setIfInBounds_toArray, List.set_cons_zero, List.set_cons_succ, i64_w, i32_w]
    rfl
  refine one_ (i := 16) (N := some 47) #[true, true, true, true, true, true, true, true, true, true, true, true, true, true, true, true, true, false] rfl rfl (one_of HT_.out (by kernel_rfl)) (by decide) (fun K hK => ?_)
  refine value_ (w1 := w'.drew.alloc (.cells #[.pointer (some ⟨tx, 0, none⟩), .int .u64 (n + 1)] 102)) (v := .pointer (some ⟨w'.heap.size, 0, none⟩)) (by rfl) rfl (by go_simp) ?_
  have hb3 : Below w'.heap.size w' (w'.drew.alloc (.cells #[.pointer (some ⟨tx, 0, none⟩), .int .u64 (n + 1)] 102)) := (below_drew (Below.refl _ w')).alloc (Nat.le_refl _) _
  have h3 : (fun Z => Z.cell? ⟨x, 0, none⟩ = some (.pointer (some ⟨b, 0, none⟩)) ∧ Z.cell? ⟨x, 1, none⟩ = some (.pointer (some ⟨tx, 0, none⟩)) ∧ Z.cell? ⟨v, 1, none⟩ = some (.int .u64 n)) (w'.drew.alloc (.cells #[.pointer (some ⟨tx, 0, none⟩), .int .u64 (n + 1)] 102)) := ⟨(T.Kept.of hb3).cell x0, (T.Kept.of hb3).cell x1, (T.Kept.of hb3).cell v1⟩
  clear hHeld
  refine hK.out _ _ h3 (fun hHeld => ?_)
  clear hK K
  refine norm_ (a' := ?_) ?_ ?_
  rotate_left
  · show Act.put _ (some 47) _ = _
    simp only [Act.put, List.setIfInBounds_toArray, List.set_cons_zero, List.set_cons_succ, i64_w, i32_w]
    rfl
  obtain ⟨V, eV⟩ : ∃ V, w'.heap.size = V := ⟨_, rfl⟩
  obtain ⟨W3, eW3⟩ : ∃ W3, w'.drew.alloc (.cells #[.pointer (some ⟨tx, 0, none⟩), .int .u64 (n + 1)] 102) = W3 := ⟨_, rfl⟩
  have hv3 : W3.heap[V]? = some (.cells #[.pointer (some ⟨tx, 0, none⟩), .int .u64 (n + 1)] 102 (0, 0)) := by rw [← eW3, ← eV]; exact heap_alloc_new w'.drew _
  rw [eW3] at hb3
  have hB3 := H2.out.2.2.1.move (hb3.block _ (Array.getElem?_eq_some_iff.1 H2.out.2.2.1.base).1) (hb3.block _ (Array.getElem?_eq_some_iff.1 H2.out.2.2.1.ver).1)
  have q3 := Aside0.mk (storePtr b V _ _ _ W3 (by rw [blk_cell hB3.base]; rfl) (blk_frozen hB3.base 0) hv3)
  have H3 := Aside0.mk (And.intro hb3 (And.intro hv3 (And.intro hB3 eV)))
  rw [eW3, eV]
  clear hb3 h3 hv3 hB3 eW3 eV
  unfold ptr at q3
  refine last_ (i := 17) (N := some 48) #[true, true, true, true, true, true, true, true, true, true, true, true, true, true, true, true, true, true] rfl rfl (one_of HT_.out (by kernel_rfl)) (by decide) (fun K hK => ?_)
  refine goes_ Tryz.func34 (by kernel_rfl) rfl #[.pointer (some ⟨b, 0, none⟩), .pointer (some ⟨V, 0, none⟩)] (by rfl) rfl rfl (by (try simp only [List.map_toArray, List.map_cons, List.map_nil]); first | done | rfl) ?_
  refine q3.out.mono ?_
  rintro e w4 ⟨rfl, hw4⟩
  have HW4 := Aside0.mk hw4
  clear hw4 hHeld
  refine ⟨_, rfl, ?_⟩
  refine hK.out _ _ ?_
  clear hK K
  refine done_ (done_of HT_.out (by kernel_rfl)) ?_
  refine NoPanic.normal ?_
  clear q2 q3 HT_ HW_ x0 x1 v1
  have hw4 := HW4.out
  have ho4 : Only (fun k => k = x ∨ k = b) w w4 := by
    rw [hw4]
    exact (H2.out.1.trans (Only.of (p := fun k => k = b) H3.out.1)).put b 0 (.inl (.inr rfl)) _
  have hcb : CellsOf w tXB (fun k => k = x ∨ k = b) := fun k e => by
    rcases e with e | e
    · rw [e]; exact ⟨_, _, _, HH.out.2.1, rfl⟩
    · rw [e]; exact ⟨_, _, _, HH.out.1.base, rfl⟩
  have hfp := ho4.farP hcb
  have ht4 : Tr w4 tb root := hfp.tr rfl rfl rfl rfl HH.out.2.2.1
  have hM4 : Mks w4 root := fun m hm => (HH.out.2.2.2.1 m hm).imp (fun c d hw => ⟨d, ho4.watch hcb rfl hw⟩)
  have hfp3 : FarP (fun t => t == 99) W3 w4 := by
    rw [hw4]
    exact ((Only.refl (fun k => k = b) W3).put b 0 (.inl rfl) _).farP (fun k e => by rw [e]; exact ⟨_, _, _, H3.out.2.2.1.base, rfl⟩)
  have hrow4 : TxtRow w4 (.slice A ks.length c) ks := (H2.out.2.2.2.1.far (p := fun t => t == 99) rfl (FarP.of H3.out.1)).far rfl hfp3
  obtain ⟨A', c', eA, hstr, hty⟩ := hrow4.slice
  injection eA with eA1 eA2 eA3
  subst eA1
  have hszs : ∀ k ∈ ks, k.size < 4000000000000 := fun k hk => by
    have h9 := HH.out.2.2.2.2.1 (L k) (H1.out.2.1.mem_iff.1 (List.mem_map_of_mem hk))
    rwa [T.L_len] at h9
  have q5 := Aside0.mk (fireTree w4 tb root ht4 hM4 A c ks hstr hty (by have := HN.out; omega) hszs)
  rw [HN.out] at q5
  have v0 : w4.cell? ⟨v, 0, none⟩ = some (.pointer (some ⟨tb, 0, none⟩)) := by rw [blk_cell (hfp _ _ _ _ HH.out.1.ver rfl)]; rfl
  have hbV : b ≠ V := by have := (Array.getElem?_eq_some_iff.1 H2.out.2.2.1.base).1; have := H3.out.2.2.2; omega
  have hob4 : w4.heap[b]? = some (.cells #[ptr V, .int .i32 1, .int .u32 0] 99 (0, 0)) := by rw [hw4]; exact set_atG H3.out.2.2.1.base 0 _
  have hov4 : w4.heap[V]? = some (.cells #[ptr tx, .int .u64 (n + 1)] 102 (0, 0)) := by rw [hw4]; exact (Below.heap_setCell _ _ _ V (Ne.symm hbV)).trans H3.out.2.1
  have H4 := Aside0.mk (And.intro ho4 (And.intro hcb (And.intro hfp (And.intro hob4 (And.intro hov4 hbV)))))
  clear hw4 ho4 hcb hfp ht4 hM4 hfp3 hrow4 hstr hty hszs eA2 eA3 hob4 hov4 hbV HW4
  unfold ptr at q5
  go_wp2_with fail
  go_at_call 67
  refine q5.out.mono ?_
  rintro e w5 ⟨rfl, hsh⟩
  have hob5 := hsh.farP _ _ _ _ H4.out.2.2.2.1 rfl
  have hov5 := hsh.farP _ _ _ _ H4.out.2.2.2.2.1 rfl
  have H5 := Aside0.mk (And.intro hsh (And.intro hob5 hov5))
  clear hsh hob5 hov5 v0 q5
  go_wp2_with fail
  refine leaves_cons (f := 66) (args := #[.pointer (some ⟨b, 1, none⟩)]) (by simp) (by simp [go_sem]) ?_
  refine (unlock_deferred ⟨b, 1, none⟩ _ w5 (by rw [blk_cell H5.out.2.1]; rfl) (blk_frozen H5.out.2.1 1)).mono ?_
  rintro e u' w6 ⟨rfl, rfl, rfl⟩
  have hdone : Done w (w5.setCell ⟨b, 1, none⟩ (.int .i32 0)) b x tb tx n root D (fireAll w4 root ks).2 := by
    have ho6 : Only (fun k => k = b) w5 (w5.setCell ⟨b, 1, none⟩ (.int .i32 0)) := (Only.refl (fun k => k = b) w5).put b 1 (.inl rfl) _
    have hc6 : CellsOf w5 (fun t => t == 99) (fun k => k = b) := fun k e => by rw [e]; exact ⟨_, _, _, H5.out.2.1, rfl⟩
    refine ⟨⟨V, set_atG H5.out.2.1 1 _, (Below.heap_setCell _ _ _ V (Ne.symm H4.out.2.2.2.2.2)).trans H5.out.2.2⟩, ?_, fun c d hw => ?_, ⟨w4, ks, fun c d hw => H4.out.1.watch H4.out.2.1 rfl hw, H1.out.2.1, rfl⟩, fun B h1 h2 h3 h4 => ?_, ?_, ?_, ?_⟩
    · have f1 : FarP tAll w w4 := H4.out.2.2.1.mono (fun t h => by unfold tAll at h; unfold tXB; rw [Bool.or_eq_false_iff] at h; exact h.1)
      have f2 : FarP tAll w4 w5 := H5.out.1.farP.mono (fun t h => by unfold tAll at h; rw [Bool.or_eq_false_iff] at h; exact h.2)
      have f3 : FarP tAll w5 (w5.setCell ⟨b, 1, none⟩ (.int .i32 0)) := (ho6.farP hc6).mono (fun t h => by unfold tAll at h; rw [Bool.or_eq_false_iff, Bool.or_eq_false_iff] at h; exact h.1.2)
      exact (f1.trans f2).trans f3
    · have h5 := H5.out.1.watch c d (H4.out.1.watch H4.out.2.1 rfl hw)
      exact ⟨_, ho6.watch hc6 rfl h5⟩
    · have b1 := H4.out.1.below B h1 (fun k _ e => by rcases e with e | e <;> omega)
      have b2 := H5.out.1.below B (Nat.le_trans h1 H4.out.1.size) (fun c d _ hS => by
        obtain ⟨m, hm1, hm2⟩ := fireAll_mks w4 root ks c hS
        rw [← hm2]
        exact h4 m hm1)
      exact (b1.trans b2).trans (ho6.below B (Nat.le_trans (Nat.le_trans h1 H4.out.1.size) H5.out.1.size) (fun k _ e => by omega))
    · exact Nat.le_trans (Nat.le_trans H4.out.1.size H5.out.1.size) ho6.size
    · exact ((H4.out.1.farD H4.out.2.1).trans H5.out.1.farD).trans (ho6.farD hc6)
    · refine ⟨w4, ks, fun c d hw => H4.out.1.watch H4.out.2.1 rfl hw, H1.out.2.1, fun c d hw => ?_⟩
      exact ho6.watch hc6 rfl (H5.out.1.watch c d (H4.out.1.watch H4.out.2.1 rfl hw))
  simp [Leaves, settle, results, Tryz.results30, go_sem]
  exact hdone
end Go.Proofs.YtjhgknagmiekeaaGreat.G
set_option linter.unusedVariables false
set_option linter.unusedSimpArgs false
namespace Go.Proofs.YtjhgknagmiekeaaGreat.G
open Go.RowKit Go.Lib Go.Proofs Go.Conc Go.Maps
open Go.Proofs.YtjhgknagmiekeaaGreatW.PrintWords hiding Kept
open Go.Proofs.YtjhgknagmiekeaaGreatW.PrintLast
open Go.Proofs.YtjhgknagmiekeaaGreat.T (Nd NdAt ptr Tr L All valT wasV Lf Strs delN)
theorem delM (w : World) (tb : Nat) (root : Nd) (h : Tr w tb root) (k : ByteArray) (hk : k.size < 4000000000000) (hs : (All root).length < 3999999999999) :
    Calls Tryz.prog 25 #[ptr tb, .string k] w fun e w' => ∃ tb' root', e = .returned (wasV tb' (valT root (L k))) ∧ Tr w' tb' root' ∧ (∀ r, valT root' r = if r = L k then none else valT root r) ∧ (All root').length ≤ (All root).length ∧ (∀ m ∈ mks root', m ∈ mks root ∨ ∃ c, m = ptr (c + 1) ∧ w.heap.size ≤ c ∧ WatchAt w' (c + 1) c false) ∧ Below w.heap.size w w' := by
  cases e : T.findT root (L k) with
  | none =>
    refine (T.treeDelete_none w tb root _ k h.at_ h.fine hk e).mono ?_
    rintro e' w' ⟨rfl, rfl⟩
    refine ⟨tb, root, by unfold valT; rw [e]; rfl, h, fun r => ?_, Nat.le_refl _, fun m hm => .inl hm, Below.refl _ _⟩
    split
    · rename_i hr; subst hr; unfold valT; rw [e]; rfl
    · rfl
  | some l =>
    obtain ⟨v, hv⟩ := h.vals _ l e
    have hpos : 0 < (All root).length := by
      have := (T.mem_all h.fine.toGood _ l).2 e
      exact List.length_pos_of_mem this
    refine (T.treeDelete_some w tb root _ k l v h.at_ h.fine hk (by omega) (by omega) e hv).mono ?_
    rintro e' w' ⟨tb', m, ns, rfl, h1, h2, h3, h4, hB⟩
    obtain ⟨f1, f2, f3⟩ := T.fine_del h.fine k l ns h2
    have hl := T.len_del h.fine k l ns h2
    refine ⟨tb', m, ?_, ⟨by rw [hl]; exact h1, f1, fun r l' e' => ?_⟩, T.valT_del h.fine k l ns h2, by omega, fun x hx => ?_, hB⟩
    · unfold valT; rw [e]; show _ = Ending.returned (.tuple #[ptr tb', l.val, .bool true]); rw [hv]
    · rw [f3] at e'
      split at e'
      · cases e'
      · exact h.vals r l' e'
    · rcases mks_del k.size k (Nat.le_refl _) root m ns l h2 x hx with h7 | ⟨j, h7⟩
      · exact .inl h7
      · obtain ⟨c, e1, e2, e3, e4⟩ := h4.mark j
        exact .inr ⟨c, h7.trans e1, e2, e4, e3⟩
attribute [local go_sem] Oper.semAt_some
set_option maxRecDepth 100000 in
set_option maxHeartbeats 1600000 in
theorem txnAbort (w : World) (x b v tb tx mb : Nat) (n : Int) (hb : BaseAt w b v tb n true) (hx : TxnAt w x b tx mb false) :
    Calls Tryz.prog 29 #[ptr x] w fun e w' => e = .returned (.int .i64 0) ∧ BaseAt w' b v tb n false ∧ Only (fun k => k = x ∨ k = b) w w' := by
  have x3 : w.cell? ⟨x, 3, none⟩ = some (.bool false) := by rw [blk_cell hx]; rfl
  have x0 : w.cell? ⟨x, 0, none⟩ = some (ptr b) := by rw [blk_cell hx]; rfl
  have f3 : w.frozen? ⟨x, 3, none⟩ = false := blk_frozen hx 3
  have hbx : b ≠ x := fun e => by
    have h1 := hb.base
    rw [e, hx] at h1
    cases h1
  have hvx : v ≠ x := fun e => by
    have h1 := hb.ver
    rw [e, hx] at h1
    cases h1
  obtain ⟨W, eW⟩ : ∃ W, w.setCell ⟨x, 3, none⟩ (.bool true) = W := ⟨_, rfl⟩
  have hb1 : BaseAt W b v tb n true := by rw [← eW]; exact hb.move (Below.heap_setCell _ _ _ b hbx) (Below.heap_setCell _ _ _ v hvx)
  have ho1 : Only (fun k => k = x) w W := by rw [← eW]; exact (Only.refl (fun k => k = x) w).put x 3 (.inl rfl) _
  have hx1 : TxnAt W x b tx mb true := by rw [← eW]; exact set_atG hx 3 _
  have q1 := Aside0.mk (unlock_held ⟨b, 1, none⟩ W (by rw [blk_cell hb1.base]; rfl) (blk_frozen hb1.base 1))
  have c0 : W.cell? ⟨x, 0, none⟩ = some (ptr b) := by rw [blk_cell hx1]; rfl
  have H := Aside0.mk (And.intro hb1 (And.intro ho1 hvx))
  have HE := Aside0.mk eW
  clear hb hx hb1 ho1 hbx hvx eW hx1
  unfold ptr at x0 c0 ⊢
  go_enter Tryz.func29, Tryz.ntmps29
  go_upto_region 4 with fail
  rw [HE.out]
  go_wp2_with fail
  go_at_call 66
  refine q1.out.mono ?_
  rintro e w2 ⟨rfl, hw2⟩
  subst hw2
  go_wp2_with fail
  go_ret
  refine ⟨rfl, ⟨set_atG H.out.1.base 1 _, (Below.heap_setCell _ _ _ v (Ne.symm H.out.1.ne)).trans H.out.1.ver⟩, (H.out.2.1.trans ((Only.refl (fun k => k = b) W).put b 1 (.inl rfl) _))⟩
set_option maxRecDepth 100000 in
set_option maxHeartbeats 4000000 in
theorem txnCommit0 (w : World) (x b v tb tx mb nn : Nat) (n : Int) (D : DataW Unit) (hb : BaseAt w b v tb n true) (hx : TxnAt w x b tx mb false) (hm : Tch w mb nn D) (hnn : nn < 1000000000000) (he : strKeys D = []) :
    Calls Tryz.prog 30 #[ptr x] w fun e w' => e = .returned (.tuple #[.int .i64 0, .int .i64 0]) ∧ BaseAt w' b v tb n false ∧ Only (fun k => k = x ∨ k = b) w w' := by
  have q1 := Aside0.mk (txnTouched w x b tx mb nn D hx hm hnn)
  have x3 : w.cell? ⟨x, 3, none⟩ = some (.bool false) := by rw [blk_cell hx]; rfl
  have hbx : b ≠ x := fun e => by
    have h1 := hb.base
    rw [e, hx] at h1
    cases h1
  have hvx : v ≠ x := fun e => by
    have h1 := hb.ver
    rw [e, hx] at h1
    cases h1
  have HH := Aside0.mk (And.intro hb (And.intro hx (And.intro he (And.intro hbx hvx))))
  have hnot : ∀ (x : Bool) (w : World), (Op.unary .not (.bool x)).run Tryz.prog w = .ok (.bool (!x)) w := fun _ _ => rfl
  clear hb hx hm hnn he hbx hvx
  unfold ptr at q1 ⊢
  go_enter_defers Tryz.func30, Tryz.ntmps30
  go_wp2_with fail
  go_at_call 50
  refine q1.out.mono ?_
  rintro e w1 ⟨vv, ks, rfl, hrow, hperm, hb1⟩
  have hx1 := (hb1.block _ (Array.getElem?_eq_some_iff.1 HH.out.2.1).1).trans HH.out.2.1
  have hbA := HH.out.1.move (hb1.block _ (Array.getElem?_eq_some_iff.1 HH.out.1.base).1) (hb1.block _ (Array.getElem?_eq_some_iff.1 HH.out.1.ver).1)
  have y0 : w1.cell? ⟨x, 0, none⟩ = some (.pointer (some ⟨b, 0, none⟩)) := by rw [blk_cell hx1]; rfl
  have y3 : w1.cell? ⟨x, 3, none⟩ = some (.bool false) := by rw [blk_cell hx1]; rfl
  have g3 : w1.frozen? ⟨x, 3, none⟩ = false := blk_frozen hx1 3
  obtain ⟨A, c, rfl, hstr, hty⟩ := hrow.slice
  have hkl : ks = [] := by
    have h9 := hperm.length_eq
    rw [HH.out.2.2.1, List.length_map, List.length_nil] at h9
    exact List.length_eq_zero_iff.1 h9
  subst hkl
  have H1 := Aside0.mk (And.intro hbA (And.intro hb1 hx1))
  clear hrow hperm hb1 hx1 hstr hty q1 x3 hbA
  rw [List.length_nil]
  go_upto_region 5 with fail
  obtain ⟨W2, eW2⟩ : ∃ W2, w1.setCell ⟨x, 3, none⟩ (.bool true) = W2 := ⟨_, rfl⟩
  have ho2 : Only (fun k => k = x) w W2 := by rw [← eW2]; exact (Only.of (p := fun k => k = x) H1.out.2.1).put x 3 (.inl rfl) _
  have hb2 : BaseAt W2 b v tb n true := by rw [← eW2]; exact H1.out.1.move (Below.heap_setCell _ _ _ b HH.out.2.2.2.1) (Below.heap_setCell _ _ _ v HH.out.2.2.2.2)
  have hx2 : TxnAt W2 x b tx mb true := by rw [← eW2]; exact set_atG H1.out.2.2 3 _
  have x0 : W2.cell? ⟨x, 0, none⟩ = some (.pointer (some ⟨b, 0, none⟩)) := by rw [blk_cell hx2]; rfl
  have H2 := Aside0.mk (And.intro ho2 hb2)
  rw [eW2]
  clear y0 y3 g3 ho2 hb2 eW2 hx2
  go_wp2_with fail
  refine leaves_cons (f := 66) (args := #[.pointer (some ⟨b, 1, none⟩)]) (by simp) (by simp [go_sem]) ?_
  refine (unlock_deferred ⟨b, 1, none⟩ _ W2 (by rw [blk_cell H2.out.2.base]; rfl) (blk_frozen H2.out.2.base 1)).mono ?_
  rintro e u' w6 ⟨rfl, rfl, rfl⟩
  have hend : BaseAt (W2.setCell ⟨b, 1, none⟩ (.int .i32 0)) b v tb n false ∧ Only (fun k => k = x ∨ k = b) w (W2.setCell ⟨b, 1, none⟩ (.int .i32 0)) :=
    ⟨⟨set_atG H2.out.2.base 1 _, (Below.heap_setCell _ _ _ v (Ne.symm H2.out.2.ne)).trans H2.out.2.ver⟩, H2.out.1.trans ((Only.refl (fun k => k = b) W2).put b 1 (.inl rfl) _)⟩
  simp [Leaves, settle, results, Tryz.results30, go_sem]
  exact hend
set_option maxRecDepth 100000 in
set_option maxHeartbeats 4000000 in
theorem txnDrop (w : World) (x b tx mb nn : Nat) (D : DataW Unit) (root : Nd) (hx : TxnAt w x b tx mb false) (hm : Tch w mb nn D) (hnn : nn < 1000000000000) (ht : Tr w tx root) (k : ByteArray) (hk : k.size < 4000000000000) (hs : (All root).length < 3999999999999) :
    Calls Tryz.prog 24 #[ptr x, .string k] w fun e w' => ∃ (old : Int) (tx' : Nat) (root' : Nd) (D' : DataW Unit), e = .returned (.tuple #[.int .i64 old, .bool (valT root (L k)).isSome, .int .i64 0]) ∧ TxnAt w' x b tx' mb false ∧ Tch w' mb (nn + 1) D' ∧ (D' = D ∧ valT root (L k) = none ∨ valT root (L k) ≠ none ∧ ∃ c : Int, D' = D.put (.string k.data.toList) (.lit (.int .i64 c))) ∧ Tr w' tx' root' ∧ (∀ r, valT root' r = if r = L k then none else valT root r) ∧ (All root').length ≤ (All root).length ∧
      (∀ m ∈ mks root', m ∈ mks root ∨ ∃ c, m = ptr (c + 1) ∧ w.heap.size ≤ c ∧ WatchAt w' (c + 1) c false) ∧ Only (fun j => j = mb ∨ j = x) w w' := by
  have x1 : w.cell? ⟨x, 1, none⟩ = some (ptr tx) := by rw [blk_cell hx]; rfl
  have x3 : w.cell? ⟨x, 3, none⟩ = some (.bool false) := by rw [blk_cell hx]; rfl
  have q1 := Aside0.mk (delM w tx root ht k hk hs)
  have HW := Aside0.mk (fun tb => was_form ht.vals tb (L k))
  have HX := Aside0.mk (And.intro hx (And.intro hm ht))
  have HK := Aside0.mk (keyOf_str k hk)
  have hmx : Aside0 (mb ≠ x) := ⟨fun e => by
    obtain ⟨es, cl, h1, -⟩ := hm
    rw [e, hx] at h1
    cases h1⟩
  obtain ⟨o, eo⟩ : ∃ o, valT root (L k) = o := ⟨_, rfl⟩
  rw [eo] at q1 HW
  have HEO := Aside0.mk eo
  rw [eo]
  obtain ⟨had, ehad⟩ : ∃ h, o.isSome = h := ⟨_, rfl⟩
  have hiff : had = true ↔ o ≠ none := by rw [← ehad]; cases o <;> simp
  rw [ehad]
  have HHAD := Aside0.mk ehad
  clear hx hm ht eo ehad
  unfold ptr at x1 q1 ⊢
  go_enter Tryz.func24, Tryz.ntmps24
  go_wp2_with fail
  go_at_call 25
  refine q1.out.mono ?_
  rintro e w2 ⟨tb', root', rfl, ht2, hv2, hl2, hm2, hb2⟩
  have hwas : ∃ (ox : Int), wasV tb' o = .tuple #[ptr tb', .int .i64 ox, .bool had] := by
    rw [← HHAD.out]
    obtain ⟨ox, oh, eab⟩ := HW.out tb'
    cases o with
    | none => exact ⟨0, rfl⟩
    | some v => exact ⟨ox, by
        have h9 : Value.tuple #[ptr tb', v, .bool true] = .tuple #[ptr tb', .int .i64 ox, .bool oh] := eab
        show Value.tuple #[ptr tb', v, .bool true] = _
        injection h9 with h9
        have h10 := congrArg (fun a => a[1]?) h9
        have h11 : some v = some (.int .i64 ox) := h10
        injection h11 with h11
        rw [h11]
        rfl⟩
  obtain ⟨ox, eab⟩ := hwas
  rw [eab]
  have hx2 := (hb2.block _ (Array.getElem?_eq_some_iff.1 HX.out.1).1).trans HX.out.1
  have hm2' : Tch w2 mb nn D := by
    exact HX.out.2.1.kept (row := none) ⟨hb2.os, hb2.tape, hb2.output, hb2.size, fun i hi _ => hb2.block i hi⟩ (by simp)
  have f1 : w2.frozen? ⟨x, 1, none⟩ = false := blk_frozen hx2 1
  have z1 : w2.cell? ⟨x, 1, none⟩ = some (.pointer (some ⟨tx, 0, none⟩)) := by rw [blk_cell hx2]; rfl
  obtain ⟨W3, eW3⟩ : ∃ W3, w2.setCell ⟨x, 1, none⟩ (ptr tb') = W3 := ⟨_, rfl⟩
  have hfar : ∀ j, j ≠ x → W3.heap[j]? = w2.heap[j]? := fun j hj => by rw [← eW3]; exact Below.heap_setCell _ _ _ j hj
  have hx3 : TxnAt W3 x b tb' mb false := by rw [← eW3]; exact set_atG hx2 1 _
  have hm3 : Tch W3 mb nn D := by rw [← eW3]; exact hm2'.setCell (a := ⟨x, 1, none⟩) hmx.out _
  have hfp : FarP (fun t => t == 117) w2 W3 := fun j cs t fr hj ht => (hfar j (fun e => by
    subst e
    rw [hx2] at hj
    injection hj with e1
    injection e1 with _ e2 _
    rw [← e2] at ht
    cases ht)).trans hj
  have ht3 := hfp.tr rfl rfl rfl rfl ht2
  have ho3 : Only (fun j => j = x) w W3 := by rw [← eW3]; exact (Only.of (p := fun j => j = x) hb2).put x 1 (.inl rfl) _
  have hmk3 : ∀ m ∈ mks root', m ∈ mks root ∨ ∃ c, m = ptr (c + 1) ∧ w.heap.size ≤ c ∧ WatchAt W3 (c + 1) c false := fun m hm => by
    rcases hm2 m hm with h | ⟨c, h1, h2, h3⟩
    · exact .inl h
    · have hlt : x < w.heap.size := (Array.getElem?_eq_some_iff.1 HX.out.1).1
      exact .inr ⟨c, h1, h2, h3.move (hfar _ (by omega)) (hfar _ (by omega))⟩
  obtain ⟨cv, hrun, hat, hwf⟩ := World.ownsMap.lookup_int hm3 (string_keyed Tryz.underlying9) Tryz.underlying115 Tryz.underlying3 (by kernel_rfl) HK.out
  have x2 : W3.cell? ⟨x, 2, none⟩ = some (.map (some mb)) := by rw [blk_cell hx3]; rfl
  have HB := Aside0.mk (And.intro hiff (And.intro hv2 hl2))
  have H3 := Aside0.mk (And.intro hx3 (And.intro hm3 (And.intro ht3 (And.intro ho3 hmk3))))
  have HE3 := Aside0.mk eW3
  clear hb2 hx2 hm2' eab eW3 hfar hx3 hm3 hfp ht3 ho3 hmk3 ht2 hv2 hl2 hm2 q1 HW hat hiff x1 x3 HHAD
  unfold ptr at HE3 ⊢
  go_upto_region 6 with fail
  rw [HE3.out]
  clear f1 z1
  cases had with
  | false =>
    go_wp2_with fail
    go_ret3
    refine ⟨ox, tb', root', D, rfl, H3.out.1, H3.out.2.1.mono (Nat.le_succ _), .inl ⟨rfl, ?_⟩, H3.out.2.2.1, HB.out.2.1, HB.out.2.2, H3.out.2.2.2.2, H3.out.2.2.2.1.imp (fun k _ h => .inr h)⟩
    by_cases h9 : o = none
    · exact h9
    · exact absurd (HB.out.1.2 h9) (by simp)
  | true =>
    go_wp2_with (at_mapUpdate; refine wpList_mapUpdate_own _ rfl _ _ _ 115 rfl 9 3 (string_keyed Tryz.underlying9) Tryz.underlying115 (plainElem Tryz.prog 3) mb nn D rfl H3.out.2.1 (by unfold maxLen; omega) _ _ (.string k.data.toList) rfl rfl HK.out (.lit (.int .i64 (wrap64 (cv + 1)))) [] (plainElem_int Tryz.underlying3 (RowKit.wrap64_wf _)) ?_)
    intro w4 hm4 hg4
    have ho4 := only_grown hg4
    have HM4 := Aside0.mk (And.intro hm4 ho4)
    clear hm4 hg4 ho4
    go_wp2_with fail
    go_ret3
    have hmap : ∀ (j : Nat) (cs : Array Value) (t : TypeId) (fr : Nat × Nat), W3.heap[j]? = some (.cells cs t fr) → j ≠ mb := fun j cs t fr hj e => by
      obtain ⟨es, cl, h1, -⟩ := H3.out.2.1
      rw [e, h1] at hj
      cases hj
    have hfp4 : FarP (fun _ => false) W3 w4 := fun j cs t fr hj _ => HM4.out.2.at hj (hmap j cs t fr hj)
    refine ⟨ox, tb', root', _, rfl, HM4.out.2.at H3.out.1 (fun e => hmx.out e.symm), HM4.out.1, .inr ⟨HB.out.1.1 (by first | rfl | trivial), _, rfl⟩, hfp4.tr rfl rfl rfl rfl H3.out.2.2.1, HB.out.2.1, HB.out.2.2, fun m hm => ?_, (H3.out.2.2.2.1.trans HM4.out.2).imp (fun k _ h => h.symm)⟩
    rcases H3.out.2.2.2.2 m hm with h | ⟨c, h1, h2, h3⟩
    · exact .inl h
    · refine .inr ⟨c, h1, h2, ⟨hfp4 _ _ _ _ h3.obj rfl, HM4.out.2.far c (Array.getElem?_eq_some_iff.1 h3.ch).1 (fun e => ?_) |>.trans h3.ch⟩⟩
      obtain ⟨es, cl, h9, -⟩ := H3.out.2.1
      have h10 := h3.ch
      rw [e, h9] at h10
      cases h10
end Go.Proofs.YtjhgknagmiekeaaGreat.G
set_option linter.unusedVariables false
set_option linter.unusedSimpArgs false
namespace Go.Proofs.YtjhgknagmiekeaaGreat.G
open Go.RowKit Go.Lib Go.Proofs Go.Conc Go.Maps
open Go.Proofs.YtjhgknagmiekeaaGreatW.PrintWords hiding Kept
open Go.Proofs.YtjhgknagmiekeaaGreatW.PrintLast
open Go.Proofs.YtjhgknagmiekeaaGreat.T (Nd NdAt ptr Tr L All valT wasV Lf Strs delN)
theorem mem_insertD {H : Type} (x y : Lit × DataW H) : ∀ l, y ∈ DataW.insert x l ↔ y = x ∨ y ∈ l
  | [] => by simp [DataW.insert]
  | z :: r => by
    rw [DataW.insert]
    split
    · simp
    · rw [List.mem_cons, mem_insertD x y r, List.mem_cons]
      constructor
      · rintro (h | h | h)
        · exact .inr (.inl h)
        · exact .inl h
        · exact .inr (.inr h)
      · rintro (h | h | h)
        · exact .inr (.inl h)
        · exact .inl h
        · exact .inr (.inr h)
theorem keys_put {H : Type} (es : List (Lit × DataW H)) (hk : ∀ p ∈ es, ∃ x, p.1 = .string x) (s : List UInt8) (d : DataW H) (t : List UInt8) : t ∈ strKeys ((DataW.map es).put (.string s) d) ↔ t = s ∨ t ∈ strKeys (DataW.map es) := by
  rw [DataW.put_eq]
  show t ∈ (ChangeMaps.putKey _ _ _).map _ ↔ _ ∨ t ∈ es.map _
  unfold ChangeMaps.putKey
  constructor
  · intro h
    obtain ⟨p, hp, e⟩ := List.mem_map.1 h
    rcases (mem_insertD _ _ _).1 hp with h1 | h1
    · left; rw [← e, h1]; rfl
    · right; exact List.mem_map.2 ⟨p, (List.mem_filter.1 h1).1, e⟩
  · rintro (h | h)
    · exact List.mem_map.2 ⟨_, (mem_insertD _ _ _).2 (.inl rfl), h.symm⟩
    · by_cases hts : t = s
      · exact List.mem_map.2 ⟨_, (mem_insertD _ _ _).2 (.inl rfl), hts.symm⟩
      · obtain ⟨p, hp, e⟩ := List.mem_map.1 h
        refine List.mem_map.2 ⟨p, (mem_insertD _ _ _).2 (.inr (List.mem_filter.2 ⟨hp, ?_⟩)), e⟩
        obtain ⟨x, hx⟩ := hk p hp
        rw [hx] at e
        have : x ≠ s := fun e2 => hts (by rw [← e, ← e2]; rfl)
        unfold ChangeMaps.notKey
        rw [hx]
        simp [Lit.sameKey, this]
theorem Tch.keys {w : World} {mb n : Nat} {D : DataW Unit} (h : Tch w mb n D) (s t : List UInt8) (d : DataW Unit) : t ∈ strKeys (D.put (.string s) d) ↔ t = s ∨ t ∈ strKeys D := by
  obtain ⟨es, rfl, hk⟩ := World.ownsMap.keysOf h
  exact keys_put es (fun p hp => by
    obtain ⟨v, hv⟩ := hk p hp
    obtain ⟨x, -, hx, -⟩ := Maps.keyOf_str Tryz.underlying9 hv
    exact ⟨x, hx⟩) s d t
structure Chg where
  drop : Bool
  key : ByteArray
  val : Int
def ChAt (w : World) (A : Option Addr) (cs : List Chg) : Prop := ∀ i (h : i < cs.length), ∃ ad, A = some ad ∧ w.cell? (ad.add (i * 3)) = some (.bool cs[i].drop) ∧ w.cell? (ad.add (i * 3 + 1)) = some (.string cs[i].key) ∧ w.cell? (ad.add (i * 3 + 2)) = some (.int .i64 cs[i].val)
theorem ChAt.keep {w w' : World} {A : Option Addr} {l : List Chg} (h : ChAt w A l) (k : T.Kept w w') : ChAt w' A l := fun i hi => by
  obtain ⟨ad, e, h0, h1, h2⟩ := h i hi
  exact ⟨ad, e, k.cell h0, k.cell h1, k.cell h2⟩
def stepV (f : List UInt8 → Option Value) (c : Chg) : List UInt8 → Option Value := fun r => if r = L c.key then (if c.drop then none else some (.int .i64 c.val)) else f r
def runV (f : List UInt8 → Option Value) (cs : List Chg) : List UInt8 → Option Value := cs.foldl stepV f
def tchOne (f : List UInt8 → Option Value) (c : Chg) : Bool := !c.drop || (f (L c.key)).isSome
def tchd : (List UInt8 → Option Value) → List Chg → Bool
  | _, [] => false
  | f, c :: r => tchOne f c || tchd (stepV f c) r
theorem tchd_snoc : ∀ (l : List Chg) (f : List UInt8 → Option Value) (c : Chg), tchd f (l ++ [c]) = (tchd f l || tchOne (runV f l) c)
  | [], f, c => by simp [tchd, runV]
  | x :: r, f, c => by
    show (tchOne f x || tchd (stepV f x) (r ++ [c])) = _
    rw [tchd_snoc r]
    show _ = ((tchOne f x || tchd (stepV f x) r) || tchOne (runV (stepV f x) r) c)
    rw [Bool.or_assoc]
theorem runV_snoc (l : List Chg) (f : List UInt8 → Option Value) (c : Chg) : runV f (l ++ [c]) = stepV (runV f l) c := by
  unfold runV
  rw [List.foldl_append]
  rfl
theorem step_idle {f : List UInt8 → Option Value} {c : Chg} (h : tchOne f c = false) : stepV f c = f := by
  unfold tchOne at h
  rw [Bool.or_eq_false_iff] at h
  funext r
  unfold stepV
  split
  · rename_i e
    have h1 : c.drop = true := by cases h2 : c.drop with | true => rfl | false => rw [h2] at h; cases h.1
    rw [h1, if_pos rfl]
    have h2 := h.2
    rw [← e] at h2
    cases h3 : f r with
    | none => rfl
    | some v => rw [h3] at h2; cases h2
  · rfl
theorem run_idle : ∀ (l : List Chg) (f : List UInt8 → Option Value), tchd f l = false → runV f l = f
  | [], f, _ => rfl
  | c :: r, f, h => by
    have h1 : (tchOne f c || tchd (stepV f c) r) = false := h
    rw [Bool.or_eq_false_iff] at h1
    show runV (stepV f c) r = f
    rw [run_idle r _ h1.2, step_idle h1.1]
def nOf (com : Bool) (f : List UInt8 → Option Value) (cs : List Chg) (n : Int) : Int := if com && tchd f cs then n + 1 else n
def vOf (com : Bool) (f : List UInt8 → Option Value) (cs : List Chg) : List UInt8 → Option Value := if com then runV f cs else f
theorem txn_far {w w' : World} {x b tx mb nn : Nat} {D : DataW Unit} {over : Bool} (hx : TxnAt w x b tx mb over) (hm : Tch w mb nn D) (h : Only (fun j => j = mb ∨ j = x) w w') : FarP (fun t => t == 117) w w' := fun j cs t fr hj ht => h.at hj (fun e => by
  rcases e with e | e
  · obtain ⟨es, cl, h1, -⟩ := hm
    rw [e, h1] at hj
    cases hj
  · rw [e, hx] at hj
    injection hj with e1
    injection e1 with _ e2 _
    rw [← e2] at ht
    cases ht)
theorem txn_watch {w w' : World} {x b tx mb nn : Nat} {D : DataW Unit} {over : Bool} (hx : TxnAt w x b tx mb over) (hm : Tch w mb nn D) (h : Only (fun j => j = mb ∨ j = x) w w') {c : Nat} {d : Bool} (hw : WatchAt w (c + 1) c d) : WatchAt w' (c + 1) c d :=
  ⟨txn_far hx hm h _ _ _ _ hw.obj rfl, h.at hw.ch (fun e => by
    have h2 := hw.ch
    rcases e with e | e
    · obtain ⟨es, cl, h1, -⟩ := hm
      rw [e, h1] at h2
      cases h2
    · rw [e, hx] at h2
      cases h2)⟩
theorem Mks.belowG {w w' : World} {n : Nd} (hb : Below w.heap.size w w') (h : Mks w n) : Mks w' n := fun m hm => (h m hm).imp (fun c d h9 => ⟨d, h9.move (hb.block _ (Array.getElem?_eq_some_iff.1 h9.obj).1) (hb.block _ (Array.getElem?_eq_some_iff.1 h9.ch).1)⟩)
structure Opened (w : World) (b v tb x tx mb nn : Nat) (n : Int) (root cur : Nd) (D : DataW Unit) : Prop where
  base : BaseAt w b v tb n true
  txn : TxnAt w x b tx mb false
  tch : Tch w mb nn D
  tr : Tr w tb root
  own : Tr w tx cur
  mkd : Mks w root
  mkc : Mks w cur
theorem Opened.below {w w' : World} {b v tb x tx mb nn : Nat} {n : Int} {root cur : Nd} {D : DataW Unit} (h : Opened w b v tb x tx mb nn n root cur D) (hb : Below w.heap.size w w') : Opened w' b v tb x tx mb nn n root cur D :=
  ⟨h.base.move (hb.block _ (Array.getElem?_eq_some_iff.1 h.base.base).1) (hb.block _ (Array.getElem?_eq_some_iff.1 h.base.ver).1), (hb.block _ (Array.getElem?_eq_some_iff.1 h.txn).1).trans h.txn, h.tch.kept (row := none) ⟨hb.os, hb.tape, hb.output, hb.size, fun i hi _ => hb.block i hi⟩ (by simp), h.tr.keep (T.Kept.of hb), h.own.keep (T.Kept.of hb), h.mkd.belowG hb, h.mkc.belowG hb⟩
theorem Opened.step {w w' : World} {b v tb x tx mb nn tx' nn' : Nat} {n : Int} {root cur cur' : Nd} {D D' : DataW Unit} (h : Opened w b v tb x tx mb nn n root cur D) (ho : Only (fun j => j = mb ∨ j = x) w w') (hx : TxnAt w' x b tx' mb false) (hm : Tch w' mb nn' D') (ht : Tr w' tx' cur') (hk : ∀ m ∈ mks cur', m ∈ mks cur ∨ ∃ c, m = ptr (c + 1) ∧ w.heap.size ≤ c ∧ WatchAt w' (c + 1) c false) : Opened w' b v tb x tx' mb nn' n root cur' D' := by
  have hf := txn_far h.txn h.tch ho
  have hb : BaseAt w' b v tb n true := ⟨hf _ _ _ _ h.base.base rfl, hf _ _ _ _ h.base.ver rfl⟩
  have hw : ∀ c d, WatchAt w (c + 1) c d → ∃ d', WatchAt w' (c + 1) c d' := fun c d h9 => ⟨d, txn_watch h.txn h.tch ho h9⟩
  refine ⟨hb, hx, hm, hf.tr rfl rfl rfl rfl h.tr, ht, fun m hm => (h.mkd m hm).imp hw, fun m hm => ?_⟩
  rcases hk m hm with h9 | ⟨c, h1, h2, h3⟩
  · exact (h.mkc m h9).imp hw
  · exact ⟨c, false, h1, h3⟩
structure After (w w' : World) (b : Nat) (root root' : Nd) (n' : Int) : Prop where
  base : ∃ v' tb', BaseAt w' b v' tb' n' false ∧ Tr w' tb' root'
  mkd : Mks w' root'
  far : FarP tAll w w'
  watch : ∀ c d, WatchAt w (c + 1) c d → ∃ d', WatchAt w' (c + 1) c d'
  below : ∀ B, B ≤ w.heap.size → B ≤ b → (∀ m ∈ mks root, B ≤ chOf m) → Below B w w' ∧ ∀ m ∈ mks root', B ≤ chOf m
  size : w.heap.size ≤ w'.heap.size
  defr : FarD w w'
end Go.Proofs.YtjhgknagmiekeaaGreat.G
set_option linter.unusedVariables false
set_option linter.unusedSimpArgs false
namespace Go.Proofs.YtjhgknagmiekeaaGreat.G
open Go.RowKit Go.Lib Go.Proofs Go.Conc Go.Maps
open Go.Proofs.YtjhgknagmiekeaaGreatW.PrintWords hiding Kept
open Go.Proofs.YtjhgknagmiekeaaGreatW.PrintLast
open Go.Proofs.YtjhgknagmiekeaaGreat.T (Nd NdAt ptr Tr L All valT wasV Lf Strs delN)
attribute [local go_sem] Oper.semAt_some
set_option maxRecDepth 100000 in
set_option maxHeartbeats 8000000 in
theorem doneC (w : World) (b v tb : Nat) (n : Int) (root : Nd) (hb : BaseAt w b v tb n false) (ht : Tr w tb root) (hM : Mks w root) (A : Option Addr) (c : Nat) (cs : List Chg)
    (hR : ∀ W, FarP tAll w W → (∀ B, B ≤ w.heap.size → B ≤ b → Below B w W) → ChAt W A cs) (hk : ∀ c ∈ cs, c.key.size < 4000000000000) (hlen : cs.length < 1000000000) (hs : (All root).length + cs.length < 3999999999999) (hn0 : 0 ≤ n) (hn1 : n < 1000000000000) (com : Bool) :
    Calls Tryz.prog 10 #[ptr b, .slice A cs.length c, .bool com] w fun e w' => e = .returned (.bool true) ∧ ∃ root' n', After w w' b root root' n' ∧ (All root').length ≤ (All root).length + cs.length ∧ (∀ r, valT root' r = vOf com (valT root) cs r) ∧ n' = nOf com (valT root) cs n := by
  have q1 := Aside0.mk (beginFree w b v tb n hb)
  have hcb : Aside0 (CellsOf w tXB (fun k => k = b)) := ⟨fun k e => by rw [e]; exact ⟨_, _, _, hb.base, rfl⟩⟩
  have HH := Aside0.mk (And.intro hb (And.intro ht hM))
  have HR := Aside0.mk hR
  have HK := Aside0.mk hk
  have hbl : b < w.heap.size := (Array.getElem?_eq_some_iff.1 hb.base).1
  have HS := Aside0.mk (And.intro hs (And.intro hn0 (And.intro hn1 hbl)))
  obtain ⟨N, eN⟩ : ∃ N, cs.length = N := ⟨_, rfl⟩
  have HN := Aside0.mk eN
  have hN : N < 1000000000 := by omega
  rw [eN]
  clear hb ht hM hR hk hlen hs hn0 hn1 hbl eN
  unfold ptr at q1 ⊢
  go_enter Tryz.func10, Tryz.ntmps10
  go_wp2_with fail
  go_at_call 18
  refine q1.out.mono ?_
  rintro e w2 ⟨x, mb, rfl, hb2, hx2, hm2, hxs, hms, hmx, ho2⟩
  have hf2 := ho2.farP hcb.out
  have ht2 : Tr w2 tb root := hf2.tr rfl rfl rfl rfl HH.out.2.1
  have hM2 : Mks w2 root := fun m hm => (HH.out.2.2 m hm).imp (fun c d h9 => ⟨d, ho2.watch hcb.out rfl h9⟩)
  have HO2 : Aside0 (Opened w2 b v tb x tb mb 0 n root root (.map [])) := ⟨⟨hb2, hx2, hm2, ht2, ht2, hM2, hM2⟩⟩
  have HX := Aside0.mk (And.intro hxs hms)
  have HB2 := Aside0.mk ho2
  clear hb2 hx2 hm2 hxs hms hmx ho2 hf2 ht2 hM2 q1
  go_wp2_with fail
  go_loopg [24] (N + 1) (fun kq v24 W => ∃ (i tx : Nat) (cur : Nd) (D : DataW Unit), v24 = .int .i64 (i : Int) ∧ Aside0 (i + kq = N + 1 ∧ i ≤ N) ∧ Aside0 (Opened W b v tb x tx mb i n root cur D) ∧ Aside0 ((∀ r, valT cur r = runV (valT root) (cs.take i) r) ∧ (All cur).length ≤ (All root).length + i ∧ (∀ s ∈ strKeys D, ∃ c ∈ cs, s = L c.key) ∧ (strKeys D = [] ↔ tchd (valT root) (cs.take i) = false) ∧ (∀ m ∈ mks cur, m ∈ mks root ∨ w.heap.size ≤ chOf m)) ∧ Aside0 (Only (fun k => k = b) w W))
  case atStart => exact ⟨0, tb, root, _, rfl, ⟨by omega⟩, HO2, ⟨fun r => rfl, Nat.le_refl _, fun s hs => (by cases hs), ⟨fun _ => rfl, fun _ => rfl⟩, fun m hm => .inl hm⟩, HB2⟩
  case round =>
    obtain ⟨i, tx, cur, D, rfl, HI, HO, HV, HW⟩ := hrel
    by_cases hi : i < N
    · have hi' : i < cs.length := by rw [HN.out]; exact hi
      have hbw : ∀ B, B ≤ w.heap.size → B ≤ b → Below B w wr := fun B h1 h2 => HW.out.below B h1 (fun k _ e => by rw [e]; exact h2)
      obtain ⟨ad, ea, k0, k1, k2⟩ := HR.out wr ((HW.out.farP hcb.out).mono (fun t h => by unfold tAll at h; unfold tXB; rw [Bool.or_eq_false_iff] at h; exact h.1)) hbw i hi'
      obtain ⟨o, eo⟩ : ∃ o, cs[i] = o := ⟨_, rfl⟩
      have hmem : o ∈ cs := by rw [← eo]; exact List.getElem_mem _
      have hks : Aside0 (o.key.size < 4000000000000) := ⟨HK.out o hmem⟩
      have htk : cs.take (i + 1) = cs.take i ++ [o] := by rw [List.take_add_one, List.getElem?_eq_getElem hi', eo]; rfl
      have HT := Aside0.mk (And.intro htk hmem)
      rw [eo] at k0 k1 k2
      clear eo hi' hbw htk hmem
      obtain ⟨dr, key, val⟩ := o
      dsimp only at k0 k1 k2 hks
      have k1' : wr.cell? ⟨(ad.add (i * 3)).block, (ad.add (i * 3)).off + 1, none⟩ = some (.string key) := by rw [← add_field _ _ 1 (by omega)]; exact k1
      have k2' : wr.cell? ⟨(ad.add (i * 3)).block, (ad.add (i * 3)).off + 2, none⟩ = some (.int .i64 val) := by rw [← add_field _ _ 2 (by omega)]; exact k2
      subst ea
      clear k1 k2
      have hin : (i : Int) < (N : Int) := by omega
      go_upto_region 7 with fail
      obtain ⟨G, eG⟩ : ∃ G, wr.heap.size = G := ⟨_, rfl⟩
      obtain ⟨W4, eW4⟩ : ∃ W4, wr.alloc (Obj.cells #[.bool dr, .string key, .int .i64 val] 30) = W4 := ⟨_, rfl⟩
      have HW4 : Aside0 (W4.heap[G]? = some (.cells #[.bool dr, .string key, .int .i64 val] 30 (0, 0)) ∧ Below wr.heap.size wr W4) := ⟨by rw [← eW4, ← eG]; exact World.alloc_heap_new wr _, by rw [← eW4]; exact (Below.refl _ wr).alloc (Nat.le_refl _) _⟩
      rw [eW4, eG]
      have hb4 := HW4.out.1
      have b0 : W4.cell? ⟨G, 0, none⟩ = some (.bool dr) := by rw [blk_cell hb4]; rfl
      have b1 : W4.cell? ⟨G, 1, none⟩ = some (.string key) := by rw [blk_cell hb4]; rfl
      have b2 : W4.cell? ⟨G, 2, none⟩ = some (.int .i64 val) := by rw [blk_cell hb4]; rfl
      have HO4 := Aside0.mk (HO.out.below HW4.out.2)
      have HW5 : Aside0 (Only (fun k => k = b) w W4) := ⟨(HW.out.trans (Only.of (p := fun _ => False) HW4.out.2)).imp (fun k _ h => h.elim id (fun e => e.elim))⟩
      have hsz : (All cur).length < 3999999999999 := by have := HV.out.2.1; have := HS.out.1; have := HN.out; omega
      have hnd : i < 1000000000000 := by omega
      have q2 := Aside0.mk (fun h : dr = true => txnDrop W4 x b tx mb i D cur HO4.out.txn HO4.out.tch hnd HO4.out.own key hks.out hsz)
      have q3 := Aside0.mk (fun h : dr = false => txnSet W4 x b tx mb i D cur HO4.out.txn HO4.out.tch hnd HO4.out.own key val hks.out hsz)
      clear hb4 eW4 eG k0 k1' k2' hin hsz hnd
      unfold ptr at q2 q3
      cases dr with
      | true =>
        go_wp2_with fail
        go_at_call 24
        refine (q2.out (by first | rfl | trivial)).mono ?_
        rintro e w5 ⟨old, tx', cur', D', rfl, hx5, hm5, hD5, ht5, hv5, hl5, hk5, ho5⟩
        have HO5 := Aside0.mk (HO4.out.step ho5 hx5 hm5 ht5 hk5)
        have hmx : w.heap.size ≤ mb ∧ w.heap.size ≤ x := ⟨HX.out.2, HX.out.1⟩
        have HW6 : Aside0 (Only (fun k => k = b) w w5) := ⟨(HW5.out.trans ho5).imp (fun k hk h => by rcases h with h | h | h; exact h; exact absurd hk (by omega); exact absurd hk (by omega))⟩
        have HV5 : Aside0 ((∀ r, valT cur' r = runV (valT root) (cs.take (i + 1)) r) ∧ (All cur').length ≤ (All root).length + (i + 1) ∧ (∀ s ∈ strKeys D', ∃ c ∈ cs, s = L c.key) ∧ (strKeys D' = [] ↔ tchd (valT root) (cs.take (i + 1)) = false) ∧ (∀ m ∈ mks cur', m ∈ mks root ∨ w.heap.size ≤ chOf m)) := by
          have hf : valT cur = runV (valT root) (cs.take i) := funext HV.out.1
          have ht1 : tchd (valT root) (cs.take (i + 1)) = (tchd (valT root) (cs.take i) || (valT cur (L key)).isSome) := by rw [HT.out.1, tchd_snoc, ← hf]; rfl
          refine ⟨fun r => ?_, by have := HV.out.2.1; omega, fun s hs => ?_, ?_, fun m hm => ?_⟩
          · rw [HT.out.1, runV_snoc, ← hf, hv5]; rfl
          · rcases hD5 with ⟨e, -⟩ | ⟨-, cc, e⟩
            · rw [e] at hs; exact HV.out.2.2.1 s hs
            · rw [e] at hs
              rcases (HO4.out.tch.keys _ _ _).1 hs with h | h
              · exact ⟨_, HT.out.2, h⟩
              · exact HV.out.2.2.1 s h
          · rw [ht1]
            rcases hD5 with ⟨e, hno⟩ | ⟨hyes, cc, e⟩
            · rw [e, hno]; simpa using HV.out.2.2.2.1
            · have h1 : (valT cur (L key)).isSome = true := by cases h : valT cur (L key) with | none => exact absurd h hyes | some _ => rfl
              rw [h1, Bool.or_true]
              refine ⟨fun h => ?_, fun h => by cases h⟩
              have h2 := (HO4.out.tch.keys key.data.toList key.data.toList (.lit (.int .i64 cc))).2 (.inl rfl)
              rw [← e, h] at h2
              cases h2
          · rcases hk5 m hm with h | ⟨c, h1, h2, h3⟩
            · exact HV.out.2.2.2.2 m h
            · right; rw [h1]; exact Nat.le_trans HW5.out.size h2
        clear hx5 hm5 hD5 ht5 hv5 hl5 hk5 ho5 b0 b1 b2 q2 q3 hmx
        go_wp2_with fail
        go_roundg (N - i)
        case measure => have := HI.out; omega
        case rel => exact ⟨i + 1, tx', cur', D', by simp, ⟨by have := HI.out; omega⟩, HO5, HV5, HW6⟩
      | false =>
        go_wp2_with fail
        go_at_call 26
        refine (q3.out (by first | rfl | trivial)).mono ?_
        rintro e w5 ⟨old, had, tx', cur', cc, rfl, hx5, hm5, ht5, hv5, hl5, hk5, ho5⟩
        have HO5 := Aside0.mk (HO4.out.step ho5 hx5 hm5 ht5 hk5)
        have hmx : w.heap.size ≤ mb ∧ w.heap.size ≤ x := ⟨HX.out.2, HX.out.1⟩
        have HW6 : Aside0 (Only (fun k => k = b) w w5) := ⟨(HW5.out.trans ho5).imp (fun k hk h => by rcases h with h | h | h; exact h; exact absurd hk (by omega); exact absurd hk (by omega))⟩
        have HV5 : Aside0 ((∀ r, valT cur' r = runV (valT root) (cs.take (i + 1)) r) ∧ (All cur').length ≤ (All root).length + (i + 1) ∧ (∀ s ∈ strKeys (D.put (.string key.data.toList) (.lit (.int .i64 cc))), ∃ c ∈ cs, s = L c.key) ∧ (strKeys (D.put (.string key.data.toList) (.lit (.int .i64 cc))) = [] ↔ tchd (valT root) (cs.take (i + 1)) = false) ∧ (∀ m ∈ mks cur', m ∈ mks root ∨ w.heap.size ≤ chOf m)) := by
          have hf : valT cur = runV (valT root) (cs.take i) := funext HV.out.1
          have ht1 : tchd (valT root) (cs.take (i + 1)) = true := by rw [HT.out.1, tchd_snoc]; show (_ || (true || _)) = true; rw [Bool.true_or, Bool.or_true]
          refine ⟨fun r => ?_, by have := HV.out.2.1; omega, fun s hs => ?_, ?_, fun m hm => ?_⟩
          · rw [HT.out.1, runV_snoc, ← hf, hv5]; rfl
          · rcases (HO4.out.tch.keys _ _ _).1 hs with h | h
            · exact ⟨_, HT.out.2, h⟩
            · exact HV.out.2.2.1 s h
          · rw [ht1]
            refine ⟨fun h => ?_, fun h => by cases h⟩
            have h2 := (HO4.out.tch.keys key.data.toList key.data.toList (.lit (.int .i64 cc))).2 (.inl rfl)
            rw [h] at h2
            cases h2
          · rcases hk5 m hm with h | ⟨c, h1, h2, h3⟩
            · exact HV.out.2.2.2.2 m h
            · right; rw [h1]; exact Nat.le_trans HW5.out.size h2
        clear hx5 hm5 ht5 hv5 hl5 hk5 ho5 b0 b1 b2 q2 q3 hmx
        go_wp2_with fail
        go_roundg (N - i)
        case measure => have := HI.out; omega
        case rel => exact ⟨i + 1, tx', cur', _, by simp, ⟨by have := HI.out; omega⟩, HO5, HV5, HW6⟩
    · have hin : i = N := by have := HI.out; omega
      subst hin
      have htake : cs.take i = cs := by rw [← HN.out]; exact List.take_length
      have HT := Aside0.mk htake
      clear htake
      have hfw := (HW.out.farP hcb.out).mono (q := tAll) (fun t h => by unfold tAll at h; unfold tXB; rw [Bool.or_eq_false_iff] at h; exact h.1)
      have hww : ∀ c d, WatchAt w (c + 1) c d → WatchAt wr (c + 1) c d := fun c d h9 => HW.out.watch hcb.out rfl h9
      have HFW := Aside0.mk (And.intro hfw (And.intro hww (HW.out.farD hcb.out)))
      have hbel : ∀ B, B ≤ w.heap.size → B ≤ b → Below B w wr := fun B h1 h2 => HW.out.below B h1 (fun k _ e => by rw [e]; exact h2)
      have HBEL := Aside0.mk hbel
      have hnd : i < 1000000000000 := by omega
      clear hfw hww hbel
      cases com with
      | false =>
        have q4 := Aside0.mk (txnAbort wr x b v tb tx mb n HO.out.base HO.out.txn)
        unfold ptr at q4
        go_wp2_with fail
        go_at_call 29
        refine q4.out.mono ?_
        rintro e w5 ⟨rfl, hb5, ho5⟩
        have hcx : CellsOf wr tXB (fun k => k = x ∨ k = b) := fun k e => by
          rcases e with e | e
          · rw [e]; exact ⟨_, _, _, HO.out.txn, rfl⟩
          · rw [e]; exact ⟨_, _, _, HO.out.base.base, rfl⟩
        have hf5 := ho5.farP hcx
        have H5 : Aside0 (After w w5 b root root n) := by
          refine ⟨⟨v, tb, hb5, hf5.tr rfl rfl rfl rfl HO.out.tr⟩, fun m hm => (HO.out.mkd m hm).imp (fun c d h9 => ⟨d, ho5.watch hcx rfl h9⟩), HFW.out.1.trans (hf5.mono (fun t h => by unfold tAll at h; unfold tXB; rw [Bool.or_eq_false_iff] at h; exact h.1)), fun c d h9 => ⟨d, ho5.watch hcx rfl (HFW.out.2.1 c d h9)⟩, fun B h1 h2 h3 => ⟨(HBEL.out B h1 h2).trans (ho5.below B (Nat.le_trans h1 HW.out.size) (fun k _ e => by
            rcases e with e | e
            · rw [e]; exact Nat.le_trans h1 HX.out.1
            · rw [e]; exact h2)), h3⟩, Nat.le_trans HW.out.size ho5.size, HFW.out.2.2.trans (ho5.farD hcx)⟩
        clear hb5 ho5 hcx hf5
        go_wp2_with fail
        go_ret
        refine ⟨rfl, root, n, H5.out, by omega, fun r => rfl, rfl⟩
      | true =>
        obtain ⟨tt, ett⟩ : ∃ tt, tchd (valT root) cs = tt := ⟨_, rfl⟩
        have HTT := Aside0.mk ett
        clear ett
        cases tt with
        | false =>
          have hke : strKeys D = [] := HV.out.2.2.2.1.2 (by rw [HT.out]; exact HTT.out)
          have q4 := Aside0.mk (txnCommit0 wr x b v tb tx mb i n D HO.out.base HO.out.txn HO.out.tch hnd hke)
          clear hke
          unfold ptr at q4
          go_wp2_with fail
          go_at_call 30
          refine q4.out.mono ?_
          rintro e w5 ⟨rfl, hb5, ho5⟩
          have hcx : CellsOf wr tXB (fun k => k = x ∨ k = b) := fun k e => by
            rcases e with e | e
            · rw [e]; exact ⟨_, _, _, HO.out.txn, rfl⟩
            · rw [e]; exact ⟨_, _, _, HO.out.base.base, rfl⟩
          have hf5 := ho5.farP hcx
          have H5 : Aside0 (After w w5 b root root n) := by
            refine ⟨⟨v, tb, hb5, hf5.tr rfl rfl rfl rfl HO.out.tr⟩, fun m hm => (HO.out.mkd m hm).imp (fun c d h9 => ⟨d, ho5.watch hcx rfl h9⟩), HFW.out.1.trans (hf5.mono (fun t h => by unfold tAll at h; unfold tXB; rw [Bool.or_eq_false_iff] at h; exact h.1)), fun c d h9 => ⟨d, ho5.watch hcx rfl (HFW.out.2.1 c d h9)⟩, fun B h1 h2 h3 => ⟨(HBEL.out B h1 h2).trans (ho5.below B (Nat.le_trans h1 HW.out.size) (fun k _ e => by
              rcases e with e | e
              · rw [e]; exact Nat.le_trans h1 HX.out.1
              · rw [e]; exact h2)), h3⟩, Nat.le_trans HW.out.size ho5.size, HFW.out.2.2.trans (ho5.farD hcx)⟩
          clear hb5 ho5 hcx hf5
          go_wp2_with fail
          go_ret
          refine ⟨rfl, root, n, H5.out, by omega, fun r => ?_, by unfold nOf; rw [HTT.out]; rfl⟩
          show _ = runV (valT root) cs r
          rw [run_idle _ _ HTT.out]
        | true =>
          have hkne : strKeys D ≠ [] := fun h => by
            have h9 := HV.out.2.2.2.1.1 h
            rw [HT.out, HTT.out] at h9
            cases h9
          have hkd : ∀ s ∈ strKeys D, s.length < 4000000000000 := fun s hs => by
            obtain ⟨c, hc, e⟩ := HV.out.2.2.1 s hs
            rw [e, T.L_len]
            exact HK.out c hc
          have q4 := Aside0.mk (txnCommit wr x b v tb tx mb i n D root HO.out.base HO.out.txn HO.out.tch hnd HO.out.tr HO.out.mkd hkd hkne HS.out.2.1 HS.out.2.2.1)
          clear hkne hkd
          unfold ptr at q4
          go_wp2_with fail
          go_at_call 30
          refine q4.out.mono ?_
          rintro e w5 ⟨cnt, rfl, hD⟩
          obtain ⟨v5, hb5⟩ := hD.base
          have H5 : Aside0 (After w w5 b root cur (n + 1)) := by
            refine ⟨⟨v5, tx, hb5, hD.far.tr rfl rfl rfl rfl HO.out.own⟩, fun m hm => (HO.out.mkc m hm).imp hD.watch, HFW.out.1.trans hD.far, fun c d h9 => hD.watch c d (HFW.out.2.1 c d h9), fun B h1 h2 h3 => ⟨(HBEL.out B h1 h2).trans (hD.below B (Nat.le_trans h1 HW.out.size) (Nat.le_trans h1 HX.out.1) h2 h3), fun m hm => ?_⟩, Nat.le_trans HW.out.size hD.size, HFW.out.2.2.trans hD.defr⟩
            rcases HV.out.2.2.2.2 m hm with h | h
            · exact h3 m h
            · exact Nat.le_trans h1 h
          clear hb5 hD
          go_wp2_with fail
          go_ret
          refine ⟨rfl, cur, n + 1, H5.out, HV.out.2.1, fun r => ?_, by unfold nOf; rw [HTT.out]; rfl⟩
          rw [HV.out.1 r, HT.out]
          rfl
end Go.Proofs.YtjhgknagmiekeaaGreat.G
set_option linter.unusedVariables false
set_option linter.unusedSimpArgs false
namespace Go.Proofs.YtjhgknagmiekeaaGreat.G
open Go.RowKit Go.Lib Go.Proofs Go.Conc Go.Maps
open Go.Proofs.YtjhgknagmiekeaaGreatW.PrintWords hiding Kept
open Go.Proofs.YtjhgknagmiekeaaGreatW.PrintLast
open Go.Proofs.YtjhgknagmiekeaaGreat.T (Nd NdAt ptr Tr L All valT wasV Lf Strs emptyN wayF wayF_none)
theorem mks_empty (nb : Nat) (m : Value) : mks (emptyN nb m) = [m] := by
  rw [mks_eq]
  rfl
theorem keys_one (e : DataW Unit) (s : List UInt8) : strKeys ((DataW.map [] : DataW Unit).put (.string s) e) = [s] := rfl
theorem fire_one (W : World) (nb c : Nat) (k : ByteArray) (h : WatchAt W (c + 1) c false) : (fireAll W (emptyN nb (ptr (c + 1))) [k]).2 = 1 := by
  obtain ⟨n, en⟩ : ∃ n, emptyN nb (ptr (c + 1)) = n := ⟨_, rfl⟩
  have hd : ∀ r, T.downN n r = none := fun r => by
    rw [← en]
    unfold T.downN
    split
    · rfl
    · rfl
  have hm : ∀ a, marksOn k n a = [c] := fun a => by
    rw [← en]
    unfold marksOn
    show _ :: (if a = k.size then [] else []) = _
    rw [ite_self]
    rfl
  have hs : ∀ (f a : Nat) (s : (Nat → Bool) × Int), wayF (stepW W k) k (f + 1) (some n) a s = shootC W s c := fun f a s => by
    rw [wayF, hd, wayF_none]
    unfold stepW
    rw [hm]
    rfl
  have e : fireAll W n [k] = shootC W (fun _ => false, 0) c := by
    unfold fireAll
    rw [List.foldl_cons, List.foldl_nil]
    unfold fireK
    have h2 : k.size + 2 = k.size + 1 + 1 := rfl
    rw [h2]
    exact hs (k.size + 1) 0 _
  rw [en]
  rw [e]
  show (if (shutAt W c || false) = true then (0 : Int) else wrap64 (0 + 1)) = 1
  rw [shutAt_of h]
  decide +kernel
set_option maxRecDepth 100000 in
set_option maxHeartbeats 4000000 in
theorem txnAlive (w : World) : Calls Tryz.prog 8 #[] w fun e w' => e = .returned (.bool true) ∧ Below w.heap.size w w' := by
  have q1 := Aside0.mk (newB w)
  go_enter Tryz.func8, Tryz.ntmps8
  unfold ptr at q1
  go_wp2_with fail
  go_at_call 9
  refine q1.out.mono ?_
  rintro e w1 ⟨b, v, tb, nb, c, rfl, hbA, htA, hwa, h1, h2, h3, hbel⟩
  obtain ⟨root, er⟩ : ∃ r, emptyN nb (ptr (c + 1)) = r := ⟨_, rfl⟩
  have ht : Tr w1 tb root := by rw [← er]; exact ⟨by rw [T.all_empty]; exact htA, T.fine_empty _ _, T.vals_empty _ _⟩
  have q2 := Aside0.mk (baseVersion w1 b v tb 0 false hbA)
  have q3 := Aside0.mk (beginFree w1 b v tb 0 hbA)
  have H1 := Aside0.mk (And.intro hbA (And.intro ht (And.intro hwa (And.intro h1 (And.intro h3 hbel)))))
  have HR := Aside0.mk er
  clear hbA htA hwa h1 h2 h3 hbel ht er q1
  unfold ptr at q2 q3
  go_wp2_with fail
  go_at_call 11
  refine q2.out.mono ?_
  rintro e w' ⟨rfl, hw⟩
  subst hw
  go_wp2_with fail
  go_at_call 18
  refine q3.out.mono ?_
  rintro e w2 ⟨x, mb, rfl, hb2, hx2, hm2, hxs, hms, hmx, ho2⟩
  have q4 := Aside0.mk (beginHeld w2 b v tb 0 hb2)
  have hc2 : CellsOf w' tXB (fun k => k = b) := fun k e => by rw [e]; exact ⟨_, _, _, H1.out.1.base, rfl⟩
  have hf2 := ho2.farP hc2
  have ht2 : Tr w2 tb root := hf2.tr rfl rfl rfl rfl H1.out.2.1
  have hw2 := ho2.watch hc2 rfl H1.out.2.2.1
  have hal : All root = [] := by rw [← HR.out]; exact T.all_empty _ _
  have q5 := Aside0.mk (txnSet w2 x b tb mb 0 _ root hx2 hm2 (by omega) ht2 ⟨#[97]⟩ 5 (by decide) (by rw [hal]; decide))
  have H2 := Aside0.mk (And.intro hb2 (And.intro hx2 (And.intro hm2 (And.intro ht2 (And.intro hw2 (And.intro hxs (And.intro hms ho2)))))))
  clear hb2 hx2 hm2 hxs hms hmx ho2 hc2 hf2 ht2 hw2 hal q2 q3
  unfold ptr at q4 q5
  go_wp2_with fail
  go_at_call 18
  refine q4.out.mono ?_
  rintro e w3 ⟨rfl, hw3⟩
  subst hw3
  go_wp2_with fail
  go_at_call 26
  refine q5.out.mono ?_
  rintro e w4 ⟨old, had, tx, root', cc, rfl, hx4, hm4, ht4, hv4, hl4, hmk4, ho4⟩
  obtain ⟨es, cl, hmo, -⟩ := id H2.out.2.2.1
  have hbx : b ≠ x := fun e => by
    have h1 := H2.out.1.base
    rw [e, H2.out.2.1] at h1
    cases h1
  have hbm : b ≠ mb := fun e => by
    have h1 := H2.out.1.base
    rw [e, hmo] at h1
    cases h1
  have hvx : v ≠ x := fun e => by
    have h1 := H2.out.1.ver
    rw [e, H2.out.2.1] at h1
    cases h1
  have hvm : v ≠ mb := fun e => by
    have h1 := H2.out.1.ver
    rw [e, hmo] at h1
    cases h1
  have hb4 : BaseAt w4 b v tb 0 true := ⟨ho4.at H2.out.1.base (fun e => by rcases e with e | e; exact hbm e; exact hbx e), ho4.at H2.out.1.ver (fun e => by rcases e with e | e; exact hvm e; exact hvx e)⟩
  have hf4 : FarP tXB w3 w4 := fun k cs t fr hk hq => ho4.at hk (fun e => by
    rcases e with e | e
    · rw [e, hmo] at hk; cases hk
    · rw [e, H2.out.2.1] at hk
      injection hk with e1
      injection e1 with _ e2 _
      rw [← e2] at hq
      cases hq)
  have htb4 : Tr w4 tb root := hf4.tr rfl rfl rfl rfl H2.out.2.2.2.1
  have hw4 : WatchAt w4 (c + 1) c false := ⟨hf4 _ _ _ _ H2.out.2.2.2.2.1.obj rfl, ho4.at H2.out.2.2.2.2.1.ch (fun e => by
    rcases e with e | e
    · have h1 := H2.out.2.2.2.2.1.ch
      rw [e, hmo] at h1
      cases h1
    · have h1 := H2.out.2.2.2.2.1.ch
      rw [e, H2.out.2.1] at h1
      cases h1)⟩
  have hmr : ∀ m ∈ mks root, m = ptr (c + 1) := fun m hm => by
    rw [← HR.out, mks_empty] at hm
    exact List.mem_singleton.1 hm
  have hM4 : Mks w4 root := fun m hm => ⟨c, false, hmr m hm, hw4⟩
  have hks := keys_one (.lit (.int .i64 cc)) (⟨#[97]⟩ : ByteArray).data.toList
  have q6 := Aside0.mk (txnCommit w4 x b v tb tx mb 1 0 _ root hb4 hx4 hm4 (by omega) htb4 hM4 (fun s hs => by rw [hks] at hs; rw [List.mem_singleton.1 hs]; decide) (by rw [hks]; simp) (by omega) (by omega))
  have hval : valT root' (L ⟨#[97]⟩) = some (.int .i64 5) := by rw [hv4, if_pos rfl]
  have H4 := Aside0.mk (And.intro hw4 (And.intro hks (And.intro ht4 (And.intro ho4 (And.intro hmr hval)))))
  clear hmo hbx hbm hvx hvm hb4 hf4 htb4 hw4 hmr hM4 hks hx4 hm4 ht4 hv4 hl4 hmk4 ho4 q4 q5 hval
  unfold ptr at q6
  go_wp2_with fail
  go_at_call 30
  refine q6.out.mono ?_
  rintro e w5 ⟨cnt, rfl, hD⟩
  have hcnt : cnt = 1 := by
    obtain ⟨W, ks, hW, hp, e⟩ := hD.count
    rw [H4.out.2.1] at hp
    have h1 := List.perm_singleton.1 hp
    obtain ⟨k, ek⟩ : ∃ k, ks = [k] := by
      cases ks with
      | nil => cases h1
      | cons k r =>
        cases r with
        | nil => exact ⟨k, rfl⟩
        | cons _ _ =>
          have h2 := congrArg List.length h1
          simp at h2
    rw [e, ek, ← HR.out]
    exact fire_one W nb c k (hW _ _ H4.out.1)
  subst hcnt
  obtain ⟨v5, hb5⟩ := hD.base
  have ht5 : Tr w5 tx root' := hD.far.tr rfl rfl rfl rfl H4.out.2.2.1
  have q7 := Aside0.mk (baseTree w5 b v5 tx _ false hb5)
  have q8 := Aside0.mk (baseVersion w5 b v5 tx _ false hb5)
  have q9 := T.getC w5 tx root' ht5 ⟨#[97]⟩ (by decide)
  rw [H4.out.2.2.2.2.2] at q9
  have Q9 := Aside0.mk q9
  have HD := Aside0.mk hD
  clear hD hb5 ht5 q9 q6
  have hB : Aside0 (Below w.heap.size w w5) := ⟨by
    have b2 := H2.out.2.2.2.2.2.2.2.below w.heap.size H1.out.2.2.2.2.2.size (fun k _ e => by rw [e]; exact H1.out.2.2.2.1)
    have s1 := H1.out.2.2.2.2.2.size
    have s2 := H2.out.2.2.2.2.2.2.2.size
    have b4 := H4.out.2.2.2.1.below w.heap.size (by omega) (fun k _ e => by
      have := H2.out.2.2.2.2.2.1
      have := H2.out.2.2.2.2.2.2.1
      rcases e with e | e <;> omega)
    have s4 := H4.out.2.2.2.1.size
    have b5 := HD.out.below w.heap.size (by omega) (by have := H2.out.2.2.2.2.2.1; omega) H1.out.2.2.2.1 (fun m hm => by
      rw [H4.out.2.2.2.2.1 m hm]
      exact H1.out.2.2.2.2.1)
    exact ((H1.out.2.2.2.2.2.trans b2).trans b4).trans b5⟩
  unfold ptr at q7 q8 Q9
  unfold T.gotV at Q9
  go_wp2_with fail
  go_at_call 12
  refine q7.out.mono ?_
  rintro e w6 ⟨rfl, hw6⟩
  subst hw6
  go_wp2_with fail
  go_at_call 11
  refine q8.out.mono ?_
  rintro e w7 ⟨rfl, hw7⟩
  subst hw7
  go_wp2_with fail
  go_at_call 15
  refine Q9.out.mono ?_
  rintro e w8 ⟨rfl, hb8⟩
  have HB8 := Aside0.mk hb8
  clear hb8 q7 q8 Q9
  go_wp2_with fail
  go_ret
  exact ⟨rfl, T.belowAt hB.out HB8.out⟩
end Go.Proofs.YtjhgknagmiekeaaGreat.G
set_option linter.unusedVariables false
set_option linter.unusedSimpArgs false
namespace Go.Proofs.YtjhgknagmiekeaaGreat.G
open Go.RowKit Go.Lib Go.Proofs Go.Conc Go.Maps
open Go.Proofs.YtjhgknagmiekeaaGreatW.PrintWords hiding Kept
open Go.Proofs.YtjhgknagmiekeaaGreatW.PrintLast
open Go.Proofs.YtjhgknagmiekeaaGreat.T (Nd NdAt ptr Tr L All valT wasV Lf Strs delN emptyN)
attribute [local go_sem] Oper.semAt_some
def BoolsAt (w : World) (A : Option Addr) (bs : List Bool) : Prop := ∀ i (h : i < bs.length), ∃ ad, A = some ad ∧ w.cell? (ad.add i) = some (.bool bs[i])
theorem BoolsAt.keep {w w' : World} {A : Option Addr} {l : List Bool} (h : BoolsAt w A l) (k : T.Kept w w') : BoolsAt w' A l := fun i hi => by
  obtain ⟨ad, e, h0⟩ := h i hi
  exact ⟨ad, e, k.cell h0⟩
structure Own (B : Nat) (w : World) (b : Nat) (root : Nd) (n : Int) : Prop where
  base : ∃ v tb, BaseAt w b v tb n false ∧ Tr w tb root
  mkd : Mks w root
  low : B ≤ b ∧ ∀ m ∈ mks root, B ≤ chOf m
theorem Own.after {B : Nat} {w w' : World} {b : Nat} {root root' : Nd} {n n' : Int} (h : Own B w b root n) (hB : B ≤ w.heap.size) (a : After w w' b root root' n') : Own B w' b root' n' ∧ Below B w w' :=
  ⟨⟨a.base, a.mkd, h.low.1, (a.below B hB h.low.1 h.low.2).2⟩, (a.below B hB h.low.1 h.low.2).1⟩
theorem Own.belowG {B : Nat} {w w' : World} {b : Nat} {root : Nd} {n : Int} (h : Own B w b root n) (hb : Below w.heap.size w w') : Own B w' b root n := by
  obtain ⟨v, tb, h1, h2⟩ := h.base
  exact ⟨⟨v, tb, h1.move (hb.block _ (Array.getElem?_eq_some_iff.1 h1.base).1) (hb.block _ (Array.getElem?_eq_some_iff.1 h1.ver).1), h2.keep (T.Kept.of hb)⟩, h.mkd.belowG hb, h.low⟩
set_option maxRecDepth 100000 in
set_option maxHeartbeats 4000000 in
theorem newOwn (w : World) : Calls Tryz.prog 9 #[] w fun e w' => ∃ b root, e = .returned (ptr b) ∧ Own w.heap.size w' b root 0 ∧ (All root).length = 0 ∧ Below w.heap.size w w' ∧ (∀ r, valT root r = none) := by
  refine (newB w).mono ?_
  rintro e w' ⟨b, v, tb, nb, c, rfl, hb, ht, hw, h1, h2, h3, hB⟩
  have ht2 : Tr w' tb (emptyN nb (ptr (c + 1))) := ⟨by rw [T.all_empty]; exact ht, T.fine_empty _ _, T.vals_empty _ _⟩
  have hm : ∀ m ∈ mks (emptyN nb (ptr (c + 1))), m = ptr (c + 1) := fun m hm => by
    rw [mks_empty] at hm
    exact List.mem_singleton.1 hm
  exact ⟨b, _, rfl, ⟨⟨v, tb, hb, ht2⟩, fun m h => ⟨c, false, hm m h, hw⟩, h1, fun m h => by rw [hm m h]; exact h3⟩, by rw [T.all_empty]; rfl, hB, T.valT_empty _ _⟩
theorem doneOwn (B : Nat) (w : World) (hB : B ≤ w.heap.size) (b : Nat) (n : Int) (root : Nd) (h : Own B w b root n) (A : Option Addr) (c : Nat) (cs : List Chg)
    (hR : ∀ W, FarP tAll w W → Below B w W → ChAt W A cs) (hk : ∀ c ∈ cs, c.key.size < 4000000000000) (hlen : cs.length < 1000000000) (hs : (All root).length + cs.length < 3999999999999) (hn0 : 0 ≤ n) (hn1 : n < 1000000000000) (com : Bool) :
    Calls Tryz.prog 10 #[ptr b, .slice A cs.length c, .bool com] w fun e w' => e = .returned (.bool true) ∧ ∃ root', Own B w' b root' (nOf com (valT root) cs n) ∧ After w w' b root root' (nOf com (valT root) cs n) ∧ (All root').length ≤ (All root).length + cs.length ∧ (∀ r, valT root' r = vOf com (valT root) cs r) ∧ Below B w w' := by
  obtain ⟨v, tb, h1, h2⟩ := h.base
  refine (doneC w b v tb n root h1 h2 h.mkd A c cs (fun W h3 h4 => hR W h3 (h4 B hB h.low.1)) hk hlen hs hn0 hn1 com).mono ?_
  rintro e w' ⟨rfl, root', n', ha, hl, hv, rfl⟩
  exact ⟨rfl, root', (h.after hB ha).1, ha, hl, hv, (h.after hB ha).2⟩
end Go.Proofs.YtjhgknagmiekeaaGreat.G
set_option linter.unusedVariables false
set_option linter.unusedSimpArgs false
namespace Go.Proofs.YtjhgknagmiekeaaGreat.V
open Go.RowKit Go.Lib Go.Proofs Go.Shelf
open Go.Proofs.YtjhgknagmiekeaaGreat.T
open Go.Proofs.YtjhgknagmiekeaaGreatW.PrintWords hiding blk_cell
theorem own_move {w w' : World} {B : Nat} {e : TypeId} {size : Nat} {v : Value} {n : Nat} {xs : List Value} (h : w.ownsRow B e size v n xs) (hk : ∀ k, v.ownBlock = some k → w'.heap[k]? = w.heap[k]?) : w'.ownsRow B e size v n xs := by
  refine ⟨h.1, ?_⟩
  rcases h.2 with h2 | ⟨g, cap, cur, h1, h2, h3, h4⟩
  · exact .inl h2
  · exact .inr ⟨g, cap, cur, h1, h2, (hk g (by rw [h1]; rfl)).trans h3, h4⟩
theorem own_weak {w : World} {b b' : Nat} {e : TypeId} {size : Nat} {v : Value} {n : Nat} {xs : List Value} (h : w.ownsRow b e size v n xs) (hb : b' ≤ b) : w.ownsRow b' e size v n xs := by
  refine ⟨h.1, ?_⟩
  rcases h.2 with h2 | ⟨g, cap, cur, h1, h2, h3⟩
  · exact .inl h2
  · exact .inr ⟨g, cap, cur, h1, Nat.le_trans hb h2, h3⟩
theorem appended2 {W w1 : World} {n₁ n₀ B : Nat} {t e : TypeId} {size : Nat} {v v' : Value} {k m : Nat} {xs ys : List Value} {tmp : Obj} {M : Nat → Prop}
    (hv : Boxed W B t v) (hte : t ≠ e) (ht : t ≠ 161) (he : e ≠ 161) (hrow : W.ownsRow n₁ e size v k xs) (hn₁ : n₁ ≤ W.heap.size) (hn₀ : n₀ ≤ n₁) (hB : n₀ ≤ B) (hM : M B)
    (hown' : w1.ownsRow n₁ e size v' m ys) (hgrow : (W.alloc tmp).grownBy w1 v.ownBlock) :
    Boxed w1 B t v ∧ Boxed (w1.setCell ⟨B, 0, none⟩ v') B t v' ∧ (w1.setCell ⟨B, 0, none⟩ v').ownsRow n₁ e size v' m ys ∧ KeepsOthers W (w1.setCell ⟨B, 0, none⟩ v') ∧ Below n₀ W (w1.setCell ⟨B, 0, none⟩ v') ∧ KpM n₁ M W (w1.setCell ⟨B, 0, none⟩ v') ∧ (∀ k, k < n₁ → k ≠ B → (w1.setCell ⟨B, 0, none⟩ v').heap[k]? = W.heap[k]?) := by
  obtain ⟨a1, a2, a3, a4, a5⟩ := hv.appended hte (own_weak hrow hn₀) (Nat.le_trans hn₀ hn₁) hB (own_weak hown' hn₀) hgrow
  have hne : ∀ k, k < n₁ → some k ≠ v.ownBlock := fun k hk e9 => by
    rcases hrow.2 with ⟨rfl, _⟩ | ⟨g, cap, cur, rfl, hb, _, _⟩
    · simp [Value.ownBlock] at e9
    · obtain rfl : k = g := by simpa [Value.ownBlock] using e9
      omega
  have hlow : ∀ k, k < n₁ → k ≠ B → (w1.setCell ⟨B, 0, none⟩ v').heap[k]? = W.heap[k]? := fun k hk hkB => by
    rw [Below.heap_setCell _ _ _ k hkB]
    exact (hgrow.block k (by rw [World.size_alloc]; omega) (hne k hk)).trans (Below.heap_alloc _ _ _ (by omega))
  refine ⟨a1, a2, hown'.kept (grownBy_setCell' w1 B v') (.inr (a1.not_row hte hown').symm), a4, a5, ⟨a5.size, fun k o hk h1 h2 => ?_, fun k cs fr hk => ?_⟩, hlow⟩
  · exact (hlow k h1 (fun e9 => h2 (by rw [e9]; exact hM))).trans hk
  · have hkB : k ≠ B := fun e9 => by
      subst e9
      rw [show W.heap[k]? = _ from hv] at hk
      injection hk with h1
      injection h1 with _ h2 _
      exact ht h2
    have hlt := (Array.getElem?_eq_some_iff.1 hk).1
    rw [Below.heap_setCell _ _ _ k hkB]
    refine (hgrow.block k (by rw [World.size_alloc]; omega) (fun e9 => ?_)).trans ((Below.heap_alloc _ _ _ (by omega)).trans hk)
    rcases hrow.2 with ⟨rfl, _⟩ | ⟨g, cap, cur, rfl, hb, hgb, _⟩
    · simp [Value.ownBlock] at e9
    · obtain rfl : k = g := by simpa [Value.ownBlock] using e9
      rw [hk] at hgb
      injection hgb with h1
      injection h1 with _ h2 _
      exact he h2.symm
theorem ownT_row {β : Type} {B : Nat} (base : Nat) (e : TypeId) (size : Nat) (he : e ≠ 4) (v : Value) (n : Nat) (xs : List Value) : OwnT B (fun (_ : β) W => W.ownsRow base e size v n xs) := fun s X Y row hs hg hr => by
  refine own_move hs (fun k hk => ?_)
  obtain ⟨cs, hc⟩ := own_typed hs k hk
  refine hg.block k (Array.getElem?_eq_some_iff.1 hc).1 (fun e9 => ?_)
  obtain ⟨-, o, h1, h2⟩ := hr k e9.symm
  rw [hc] at h1
  cases h1
  rcases h2 with h2 | ⟨b, h2⟩
  · cases h2
  · injection h2 with _ h3 _
    exact he h3
theorem ownT_all {β γ : Type} {B : Nat} {p : γ → β → World → Prop} (h : ∀ g, OwnT B (p g)) : OwnT B (fun s W => ∃ g, p g s W) := fun s X Y row hs hg hr => by
  obtain ⟨g, hs⟩ := hs
  exact ⟨g, h g s X Y row hs hg hr⟩
theorem appendedF {W w1 : World} {n₁ B : Nat} {t e : TypeId} {size : Nat} {v v' : Value} {k m : Nat} {xs ys : List Value} {tmp : Obj}
    (hv : Boxed W B t v) (hrow : W.ownsRow n₁ e size v k xs) (hown' : w1.ownsRow n₁ e size v' m ys) (hgrow : (W.alloc tmp).grownBy w1 v.ownBlock) :
    ∀ j, j < W.heap.size → j ≠ B → some j ≠ v.ownBlock → (w1.setCell ⟨B, 0, none⟩ v').heap[j]? = W.heap[j]? := fun j hj hB ho => by
  rw [Below.heap_setCell _ _ _ j hB]
  exact (hgrow.block j (by rw [World.size_alloc]; omega) ho).trans (Below.heap_alloc _ _ _ hj)
theorem appendedU {W w1 : World} {n₁ B B' : Nat} {t e : TypeId} {size : Nat} {v v' : Value} {k m : Nat} {xs ys : List Value} {tmp : Obj} (he : ¬ Quiet e) (hB : B < B')
    (hv : Boxed W B t v) (hrow : W.ownsRow n₁ e size v k xs) (hown' : w1.ownsRow n₁ e size v' m ys) (hgrow : (W.alloc tmp).grownBy w1 v.ownBlock) : KeepsU B' W (w1.setCell ⟨B, 0, none⟩ v') := by
  refine ⟨?_, fun j o hj h hq => ?_⟩
  · have h1 := hgrow.size
    have h2 := (grownBy_setCell' w1 B v').size
    rw [World.size_alloc] at h1
    omega
  · refine (appendedF hv hrow hown' hgrow j (Array.getElem?_eq_some_iff.1 h).1 (by omega) (fun e9 => ?_)).trans h
    obtain ⟨cs', hc⟩ := own_typed hrow j e9.symm
    rw [hc] at h
    cases h
    rcases hq with hq | ⟨_, _, _, hq, hq2⟩
    · cases hq
    · injection hq with _ h3 _
      subst h3
      exact he hq2
def rowc (l : List (ByteArray × Int)) : List Value := l.flatMap (fun x => [.bool false, .string x.1, .int .i64 x.2])
theorem rowc_snoc (l : List (ByteArray × Int)) (x : ByteArray × Int) : rowc (l ++ [x]) = rowc l ++ [.bool false, .string x.1, .int .i64 x.2] := by simp [rowc]
theorem cell_three_new (w : World) (x y z : Value) (t : TypeId) : ∀ j u, [x, y, z][j]? = some u → (w.alloc (.cells #[x, y, z] t)).cell? ((⟨w.heap.size, 0, none⟩ : Addr).add j) = some u := by
  intro j u hj
  have h := World.alloc_heap_new w (.cells #[x, y, z] t)
  match j, hj with
  | 0, hj => cases hj; show World.cell? _ ⟨_, 0, none⟩ = _; rw [blk_cell h]; rfl
  | 1, hj => cases hj; show World.cell? _ ⟨_, 1, none⟩ = _; rw [blk_cell h]; rfl
  | 2, hj => cases hj; show World.cell? _ ⟨_, 2, none⟩ = _; rw [blk_cell h]; rfl
  | j + 3, hj => cases hj
theorem rowc_get : ∀ (l : List (ByteArray × Int)) (i : Nat) (h : i < l.length), (rowc l)[i * 3]? = some (.bool false) ∧ (rowc l)[i * 3 + 1]? = some (.string l[i].1) ∧ (rowc l)[i * 3 + 2]? = some (.int .i64 l[i].2)
  | x :: l, 0, h => ⟨rfl, rfl, rfl⟩
  | x :: l, i + 1, h => by
    have ih := rowc_get l i (by simpa using h)
    have e : rowc (x :: l) = .bool false :: .string x.1 :: .int .i64 x.2 :: rowc l := rfl
    rw [e, show (i + 1) * 3 = i * 3 + 1 + 1 + 1 from by omega]
    exact ih
theorem own_farP {w w1 : World} {B : Nat} {e : TypeId} {size : Nat} {v : Value} {n : Nat} {xs : List Value} {tmp : Obj} (h : w.ownsRow B e size v n xs) (hg : (w.alloc tmp).grownBy w1 v.ownBlock) : Go.Proofs.YtjhgknagmiekeaaGreat.G.FarP (fun t => t == e) w w1 := fun b cs t fr hb ht => by
  have hlt := (Array.getElem?_eq_some_iff.1 hb).1
  refine (hg.block b (by rw [World.size_alloc]; omega) (fun e9 => ?_)).trans ((Below.heap_alloc _ _ _ (by omega)).trans hb)
  obtain ⟨cs', hc⟩ := own_typed h b e9.symm
  rw [hc] at hb
  injection hb with e1
  injection e1 with _ e2 _
  rw [← e2] at ht
  simp at ht
theorem own_farD {w w1 : World} {B : Nat} {e : TypeId} {size : Nat} {v : Value} {n : Nat} {xs : List Value} {tmp : Obj} (h : w.ownsRow B e size v n xs) (hg : (w.alloc tmp).grownBy w1 v.ownBlock) : Go.Proofs.YtjhgknagmiekeaaGreat.G.FarD w w1 := fun b d hb => by
  have hlt := (Array.getElem?_eq_some_iff.1 hb).1
  refine (hg.block b (by rw [World.size_alloc]; omega) (fun e9 => ?_)).trans ((Below.heap_alloc _ _ _ (by omega)).trans hb)
  obtain ⟨cs', hc⟩ := own_typed h b e9.symm
  rw [hc] at hb
  cases hb
theorem own_below {w w1 : World} {tmp : Obj} {B : Nat} {e : TypeId} {size : Nat} {v : Value} {n : Nat} {xs : List Value} (h : w.ownsRow B e size v n xs) (hB : B ≤ w.heap.size) (hg : (w.alloc tmp).grownBy w1 v.ownBlock) : Below B w w1 :=
  ((Below.refl B w).alloc hB _).trans (below_grown hg (by rw [World.size_alloc]; omega) (fun k hk => own_base h k hk))
theorem own_farRow {w w1 : World} {q : TypeId → Bool} {B : Nat} {e : TypeId} {size : Nat} {v : Value} {n : Nat} {xs : List Value} (h : w.ownsRow B e size v n xs) (hf : Go.Proofs.YtjhgknagmiekeaaGreat.G.FarP q w w1) (hq : q e = false) : w1.ownsRow B e size v n xs :=
  own_move h (fun k hk => by
    obtain ⟨cs', hc⟩ := own_typed h k hk
    exact (hf _ _ _ _ hc hq).trans hc.symm)
end Go.Proofs.YtjhgknagmiekeaaGreat.V
set_option linter.unusedVariables false
set_option linter.unusedSimpArgs false
namespace Go.Proofs.YtjhgknagmiekeaaGreat.T
mutual
theorem ents_len : ∀ (n : Nd) (p : List UInt8) (B : Nat) (x : Ent), Fits n B → x ∈ ents p n → x.1.length ≤ p.length + B
  | .mk b label leaf kids mark, p, B, x, hf, hx => by
    obtain ⟨h1, h2⟩ := hf.parts
    have h1' : label.size ≤ B := h1
    have h2' : Fitss kids (B - label.size) := h2
    rw [ents, List.mem_append] at hx
    rcases hx with hx | hx
    · have e : x.1 = p ++ L label := by
        cases leaf with
        | none => cases hx
        | some l => rw [List.mem_singleton.1 hx]
      rw [e, List.length_append, L_len]; omega
    · have := entss_len kids (p ++ L label) (B - label.size) x h2' hx
      rw [List.length_append, L_len] at this
      omega
theorem entss_len : ∀ (ks : List Nd) (p : List UInt8) (B : Nat) (x : Ent), Fitss ks B → x ∈ entss p ks → x.1.length ≤ p.length + B
  | [], p, B, x, hf, hx => by rw [entss] at hx; cases hx
  | k :: r, p, B, x, hf, hx => by
    rw [entss, List.mem_append] at hx
    have h : Fits k B ∧ Fitss r B := by unfold Fitss at hf; exact hf
    rcases hx with hx | hx
    · exact ents_len k p B x h.1 hx
    · exact entss_len r p B x h.2 hx
end
theorem key_len {root : Nd} (h : Fine root) (r : List UInt8) (hr : valT root r ≠ none) : r.length < 4000000000000 := by
  unfold valT at hr
  cases e : findT root r with
  | none => rw [e] at hr; exact absurd rfl hr
  | some l =>
    have := (mem_all h.toGood r l).2 e
    have h2 := ents_len root [] 3999999999999 (r, l) h.fits this
    simp at h2
    omega
end Go.Proofs.YtjhgknagmiekeaaGreat.T
namespace Go.Proofs.YtjhgknagmiekeaaGreat.G
open Go.RowKit Go.Lib Go.Proofs Go.Conc Go.Maps
open Go.Proofs.YtjhgknagmiekeaaGreatW.PrintWords hiding Kept
open Go.Proofs.YtjhgknagmiekeaaGreatW.PrintLast
open Go.Proofs.YtjhgknagmiekeaaGreat.T (Nd NdAt ptr Tr L All valT wasV Lf Strs delN)
attribute [local go_sem] Oper.semAt_some
theorem base_tree (w : World) (b v tb : Nat) (n : Int) (held : Bool) (h : BaseAt w b v tb n held) : Calls Tryz.prog 12 #[.pointer (some ⟨b, 0, none⟩)] w fun e w' => e = .returned (.pointer (some ⟨tb, 0, none⟩)) ∧ w' = w := baseTree w b v tb n held h
end Go.Proofs.YtjhgknagmiekeaaGreat.G
