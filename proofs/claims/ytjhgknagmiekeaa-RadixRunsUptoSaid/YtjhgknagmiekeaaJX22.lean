/- joined: Q8 TR16 TR18 -/
import Derived.Test.YtjhgknagmiekeaaJX20
import Derived.Maps.AppendAt
import Derived.Laws.OwnMore
import Derived.Test.YtjhgknagmiekeaaJX21
import Derived.Test.YtjhgknagmiekeaaJX5
set_option linter.unusedVariables false
set_option linter.unusedSimpArgs false
namespace Go.Proofs.Ytjhgknagmiekeaa.N
open Go.RowKit Go.Lib Go.Proofs
open Go.Proofs.Ytjhgknagmiekeaa.K Go.Proofs.YtjhgknagmiekeaaW.PrintLast
open Go.Proofs.YtjhgknagmiekeaaW.PrintWords hiding Kept
open Go.Proofs.Ytjhgknagmiekeaa.T (L Nd Fine IntVals valT findT Tr ptr ptrs All NdAt NdsAt LfAt Row Lf)
def FarT (w w' : World) : Prop := ∀ (b : Nat) (cs : Array Value) (t : TypeId) (fr : Nat × Nat), w.heap[b]? = some (.cells cs t fr) → t ≠ 24 → t ≠ 28 → w'.heap[b]? = some (.cells cs t fr)
theorem FarT.of {w w' : World} (h : Below w.heap.size w w') : FarT w w' := fun b cs t fr hb _ _ => (h.block b (Array.getElem?_eq_some_iff.1 hb).1).trans hb
theorem FarT.row {w w' : World} (h : FarT w w') {v : Value} {ps : List Value} (hr : Row w v ps) : Row w' v ps := by
  rcases hr with hr | ⟨ad, c, hv, hr⟩
  · exact .inl hr
  · refine .inr ⟨ad, c, hv, fun i hi => ?_⟩
    obtain ⟨h1, cs, fr, h2⟩ := hr i hi
    have h3 := h _ cs 58 fr h2 (by decide) (by decide)
    exact ⟨(World.cell?_of_block (a := ad.add i) (by rw [add_block]; exact h3.trans h2.symm)).trans h1, cs, fr, h3⟩
theorem FarT.leaf {w w' : World} (h : FarT w w') {o : Option Lf} (hl : LfAt w o) : LfAt w' o := fun l e => h _ _ _ _ (hl l e) (by decide) (by decide)
mutual
theorem FarT.nd {w w' : World} (h : FarT w w') : ∀ t : Nd, NdAt w t → NdAt w' t
  | .mk b label leaf kids mark, hn => by
    unfold NdAt at hn ⊢
    obtain ⟨⟨kv, h1, h2⟩, h3, h4, h5⟩ := hn
    exact ⟨⟨kv, h _ _ _ _ h1 (by decide) (by decide), h.row h2⟩, h.leaf h3, FarT.nds h kids h4, h5⟩
theorem FarT.nds {w w' : World} (h : FarT w w') : ∀ ks : List Nd, NdsAt w ks → NdsAt w' ks
  | [], _ => by unfold NdsAt; trivial
  | n :: r, hn => by
    unfold NdsAt at hn ⊢
    exact ⟨FarT.nd h n hn.1, FarT.nds h r hn.2⟩
end
theorem FarT.tr {w w' : World} (h : FarT w w') {tb : Nat} {root : Nd} (ht : Tr w tb root) : Tr w' tb root := ⟨⟨h _ _ _ _ ht.at_.blk (by decide) (by decide), FarT.nd h root ht.at_.root⟩, ht.fine, ht.vals⟩
structure Vr where
  tb : Nat
  root : Nd
  t : Rt
  v0 : Value
  v1 : Value
  v2 : Value
  v3 : Value
  v4 : Value
def Vr.five (x : Vr) : List Value := [x.v0, x.v1, x.v2, x.v3, x.v4]
def trees (l : List Vr) : List Value := l.map (fun x => ptr x.tb)
def models (l : List Vr) : List Value := l.flatMap Vr.five
theorem trees_snoc (l : List Vr) (x : Vr) : trees (l ++ [x]) = trees l ++ [ptr x.tb] := by simp [trees]
theorem models_snoc (l : List Vr) (x : Vr) : models (l ++ [x]) = models l ++ x.five := by simp [models]
theorem trees_get (l : List Vr) (i : Nat) (h : i < l.length) : (trees l)[i]? = some (ptr l[i].tb) := by
  unfold trees
  rw [List.getElem?_map, List.getElem?_eq_getElem h]
  rfl
theorem models_get : ∀ (l : List Vr) (i : Nat) (h : i < l.length) (j : Nat) (hj : j < 5), (models l)[i * 5 + j]? = l[i].five[j]?
  | x :: l, 0, h, j, hj => by
    show (x.five ++ models l)[0 * 5 + j]? = _
    rw [List.getElem?_append_left (by show 0 * 5 + j < 5; omega)]
    congr 1
    omega
  | x :: l, i + 1, h, j, hj => by
    show (x.five ++ models l)[(i + 1) * 5 + j]? = _
    rw [List.getElem?_append_right (by show 5 ≤ _; omega), show (i + 1) * 5 + j - x.five.length = i * 5 + j from by show (i + 1) * 5 + j - 5 = _; omega]
    exact models_get l i (by simpa using h) j hj
structure VOk (M : Nat → Prop) (w : World) (n : Nat) (x : Vr) : Prop where
  tr : Tr w x.tb x.root
  rt : RtOff M w x.t x.v0 x.v1 x.v2 x.v3 x.v4
  ok : RokP x.t
  ag : Agree x.root x.t
  few : x.t.ks.length ≤ n
theorem VOk.move {M M' : Nat → Prop} {w w' : World} {n n' : Nat} {x : Vr} (h : VOk M w n x) (hs : w.heap.size ≤ w'.heap.size) (hk : ∀ k, k < w.heap.size → ¬ M k → w'.heap[k]? = w.heap[k]?) (hf : FarT w w') (hM : ∀ k, k < w'.heap.size → M' k → M k ∨ w.heap.size ≤ k) (hn : n ≤ n') : VOk M' w' n' x := by
  refine ⟨hf.tr h.tr, fun w2 h1 h2 => h.rt w2 (Nat.le_trans hs h1) (fun k h3 h4 => (h2 k (Nat.lt_of_lt_of_le h3 hs) (fun h5 => ?_)).trans (hk k h3 h4)), h.ok, h.ag, Nat.le_trans h.few hn⟩
  rcases hM k (Nat.lt_of_lt_of_le h3 hs) h5 with h6 | h6
  · exact h4 h6
  · omega
def InRows (vT vM : Value) (k : Nat) : Prop := vT.ownBlock = some k ∨ vM.ownBlock = some k
structure Vers (w : World) (B : Nat) (vT vM : Value) (lT lM l : List Vr) (n : Nat) : Prop where
  rT : w.ownsRow B 24 1 vT lT.length (trees lT)
  rM : w.ownsRow B 28 5 vM lM.length (models lM)
  all : ∀ x ∈ l, VOk (InRows vT vM) w n x
theorem own_move {w w' : World} {B : Nat} {e : TypeId} {size : Nat} {v : Value} {n : Nat} {xs : List Value} (h : w.ownsRow B e size v n xs) (hk : ∀ k, v.ownBlock = some k → w'.heap[k]? = w.heap[k]?) : w'.ownsRow B e size v n xs := by
  refine ⟨h.1, ?_⟩
  rcases h.2 with h2 | ⟨g, cap, cur, h1, h2, h3, h4⟩
  · exact .inl h2
  · exact .inr ⟨g, cap, cur, h1, h2, (hk g (by rw [h1]; rfl)).trans h3, h4⟩
theorem Vers.below {w w' : World} {B : Nat} {vT vM : Value} {lT lM l : List Vr} {n n' : Nat} (h : Vers w B vT vM lT lM l n) (hb : Below w.heap.size w w') (hn : n ≤ n') : Vers w' B vT vM lT lM l n' :=
  ⟨own_move h.rT (fun k hk => hb.block k (h.rT.lt k hk).2), own_move h.rM (fun k hk => hb.block k (h.rM.lt k hk).2), fun x hx => (h.all x hx).move hb.size (fun k hk _ => hb.block k hk) (FarT.of hb) (fun k _ hk => .inl hk) hn⟩
theorem Vers.add {w : World} {B : Nat} {vT vM : Value} {lT lM l : List Vr} {n : Nat} (h : Vers w B vT vM lT lM l n) {x : Vr} (hx : VOk (InRows vT vM) w n x) : Vers w B vT vM lT lM (l ++ [x]) n :=
  ⟨h.rT, h.rM, fun y hy => (List.mem_append.1 hy).elim (h.all y) (fun e => by rw [List.mem_singleton.1 e]; exact hx)⟩
theorem own_far {w w1 : World} {B : Nat} {e : TypeId} {size : Nat} {v : Value} {n : Nat} {xs : List Value} {tmp : Obj} (h : w.ownsRow B e size v n xs) (he : e = 24 ∨ e = 28) (hg : (w.alloc tmp).grownBy w1 v.ownBlock) : FarT w w1 := fun b cs t fr hb h1 h2 => by
  have hlt := (Array.getElem?_eq_some_iff.1 hb).1
  refine (hg.block b (by rw [World.size_alloc]; omega) (fun e9 => ?_)).trans ((Below.heap_alloc _ _ _ (by omega)).trans hb)
  rcases h.2 with ⟨rfl, _⟩ | ⟨g, cap, cur, rfl, _, hc, _⟩
  · simp [Value.ownBlock] at e9
  · obtain rfl : b = g := by simpa [Value.ownBlock] using e9
    rw [hb] at hc
    injection hc with e1
    injection e1 with _ e2 _
    rcases he with he | he
    · exact h1 (e2.trans he)
    · exact h2 (e2.trans he)
theorem own_apart {w : World} {B : Nat} {e e' : TypeId} {size size' : Nat} {v v' : Value} {n n' : Nat} {xs xs' : List Value} (h : w.ownsRow B e size v n xs) (h' : w.ownsRow B e' size' v' n' xs') (hne : e ≠ e') (k : Nat) (hk : v.ownBlock = some k) : v'.ownBlock ≠ some k := fun hk' => by
  obtain ⟨c1, h1⟩ := own_typed h k hk
  obtain ⟨c2, h2⟩ := own_typed h' k hk'
  rw [h1] at h2
  injection h2 with e1
  injection e1 with _ e2 _
  exact hne e2
theorem grow_block {w w1 : World} {tmp : Obj} {row : Option Nat} (hg : (w.alloc tmp).grownBy w1 row) (k : Nat) (hk : k < w.heap.size) (hne : some k ≠ row) : w1.heap[k]? = w.heap[k]? :=
  (hg.block k (by rw [World.size_alloc]; omega) hne).trans (Below.heap_alloc _ _ _ (by omega))
theorem grow_size {w w1 : World} {tmp : Obj} {row : Option Nat} (hg : (w.alloc tmp).grownBy w1 row) : w.heap.size ≤ w1.heap.size := by
  have := hg.size
  rw [World.size_alloc] at this
  omega
theorem VOk.put {M : Nat → Prop} {W W' : World} {n b : Nat} {x : Vr} {cs : Array Value} {fr : Nat × Nat} (h : VOk (fun k => M k ∨ k = b) W n x) (hz : W.heap[b]? = some (.cells cs 28 fr)) (hs : W'.heap.size = W.heap.size) (hk : ∀ k, k ≠ b → W'.heap[k]? = W.heap[k]?) : VOk M W' n x :=
  h.move (by omega) (fun k _ hn => hk k (fun e => hn (.inr e))) (fun b' cs' t fr' hb h1 h2 => (hk b' (fun e => by
    subst e
    rw [hz] at hb
    injection hb with e1
    injection e1 with _ e2 _
    exact h2 e2.symm)).trans hb) (fun k _ hm => .inl (.inl hm)) (Nat.le_refl _)
theorem VOk.imp {M M' : Nat → Prop} {w : World} {n n' : Nat} {x : Vr} (h : VOk M w n x) (hM : ∀ k, k < w.heap.size → M' k → M k) (hn : n ≤ n') : VOk M' w n' x := ⟨h.tr, h.rt.imp hM, h.ok, h.ag, Nat.le_trans h.few hn⟩
theorem VOk.below {M : Nat → Prop} {w w' : World} {n : Nat} {x : Vr} (h : VOk M w n x) (hb : Below w.heap.size w w') : VOk (fun k => M k ∨ w.heap.size ≤ k) w' n x := ⟨h.tr.keep (T.Kept.of hb), h.rt.below hb, h.ok, h.ag, h.few⟩
theorem info24 : (Try.prog.info? 24).map (fun i => (i.zero, i.size, i.bytes)) = some (some (.pointer none), 1, 8) := by kernel_rfl
theorem info28 : (Try.prog.info? 28).map (fun i => (i.zero, i.size, i.bytes)) = some (some (.agg #[.slice none 0 0, .slice none 0 0, .slice none 0 0, .slice none 0 0, .slice none 0 0]), 5, 120) := by kernel_rfl
theorem cell_five_new (w : World) (a b c d e : Value) (t : TypeId) : ∀ j u, [a, b, c, d, e][j]? = some u → (w.alloc (.cells #[a, b, c, d, e] t)).cell? ((⟨w.heap.size, 0, none⟩ : Addr).add j) = some u := by
  intro j u hj
  have h := World.alloc_heap_new w (.cells #[a, b, c, d, e] t)
  match j, hj with
  | 0, hj => cases hj; show World.cell? _ ⟨_, 0, none⟩ = _; rw [blk_cell h]; rfl
  | 1, hj => cases hj; show World.cell? _ ⟨_, 1, none⟩ = _; rw [blk_cell h]; rfl
  | 2, hj => cases hj; show World.cell? _ ⟨_, 2, none⟩ = _; rw [blk_cell h]; rfl
  | 3, hj => cases hj; show World.cell? _ ⟨_, 3, none⟩ = _; rw [blk_cell h]; rfl
  | 4, hj => cases hj; show World.cell? _ ⟨_, 4, none⟩ = _; rw [blk_cell h]; rfl
  | j + 5, hj => cases hj
theorem Vers.growT {w w1 : World} {B : Nat} {vT vM vT' : Value} {lT lM l : List Vr} {n : Nat} (h : Vers w B vT vM lT lM l n) {tmp : Obj} {x : Vr} (hown : w1.ownsRow B 24 1 vT' (lT.length + 1) (trees lT ++ [ptr x.tb])) (hg : (w.alloc tmp).grownBy w1 vT.ownBlock) (hat : vT'.ownBlock = vT.ownBlock ∨ vT'.ownBlock = some (w.heap.size + 1)) : Vers w1 B vT' vM (lT ++ [x]) lM l n := by
  have hs := grow_size hg
  refine ⟨by rw [List.length_append, trees_snoc]; exact hown, own_move h.rM (fun k hk => grow_block hg k (h.rM.lt k hk).2 (fun e => own_apart h.rM h.rT (by decide) k hk e.symm)), fun y hy => (h.all y hy).move hs (fun k hk hn => grow_block hg k hk (fun e => hn (.inl e.symm))) (own_far h.rT (.inl rfl) hg) (fun k hk hm => ?_) (Nat.le_refl _)⟩
  rcases hm with hm | hm
  · rcases hat with e | e
    · exact .inl (.inl (e.symm.trans hm))
    · rw [e] at hm
      injection hm with hm
      exact .inr (by omega)
  · exact .inl (.inr hm)
theorem Vers.growM {w w1 : World} {B : Nat} {vT vM vM' : Value} {lT lM l : List Vr} {n : Nat} (h : Vers w B vT vM lT lM l n) {tmp : Obj} {x : Vr} (hown : w1.ownsRow B 28 5 vM' (lM.length + 1) (models lM ++ x.five)) (hg : (w.alloc tmp).grownBy w1 vM.ownBlock) (hat : vM'.ownBlock = vM.ownBlock ∨ vM'.ownBlock = some (w.heap.size + 1)) : Vers w1 B vT vM' lT (lM ++ [x]) l n := by
  have hs := grow_size hg
  refine ⟨own_move h.rT (fun k hk => grow_block hg k (h.rT.lt k hk).2 (fun e => own_apart h.rT h.rM (by decide) k hk e.symm)), by rw [List.length_append, models_snoc]; exact hown, fun y hy => (h.all y hy).move hs (fun k hk hn => grow_block hg k hk (fun e => hn (.inr e.symm))) (own_far h.rM (.inr rfl) hg) (fun k hk hm => ?_) (Nat.le_refl _)⟩
  rcases hm with hm | hm
  · exact .inl (.inl hm)
  · rcases hat with e | e
    · exact .inl (.inr (e.symm.trans hm))
    · rw [e] at hm
      injection hm with hm
      exact .inr (by omega)
theorem below_grow {w w1 : World} {tmp : Obj} {B : Nat} {e : TypeId} {size : Nat} {v : Value} {n : Nat} {xs : List Value} (h : w.ownsRow B e size v n xs) (hB : B ≤ w.heap.size) (hg : (w.alloc tmp).grownBy w1 v.ownBlock) : Below B w w1 :=
  ((Below.refl B w).alloc hB _).trans (T.below_grown hg (by rw [World.size_alloc]; omega) (fun k hk => (h.lt k hk).1))
theorem Vers.cellT {w : World} {B g c n : Nat} {vM : Value} {lT lM l : List Vr} (h : Vers w B (.slice (some ⟨g, 0, none⟩) lT.length c) vM lT lM l n) (i : Nat) (hi : i < lT.length) : w.cell? ⟨g, i, none⟩ = some (ptr lT[i].tb) := by
  rw [World.ownsRow.cellAt h.rT i (by omega)]
  exact trees_get lT i hi
theorem Vers.cellM {w : World} {B g c n : Nat} {vT : Value} {lT lM l : List Vr} (h : Vers w B vT (.slice (some ⟨g, 0, none⟩) lM.length c) lT lM l n) (i : Nat) (hi : i < lM.length) (j : Nat) (hj : j < 5) : w.cell? ⟨g, i * 5 + j, none⟩ = lM[i].five[j]? := by
  rw [World.ownsRow.cellAt h.rM (i * 5 + j) (by omega)]
  exact models_get lM i hi j hj
theorem own_slice {w : World} {B : Nat} {e : TypeId} {size : Nat} {v : Value} {n : Nat} {xs : List Value} (h : w.ownsRow B e size v (n + 1) xs) : ∃ g c, v = .slice (some ⟨g, 0, none⟩) (n + 1) c := by
  rcases h.2 with ⟨_, h2⟩ | ⟨g, cap, cur, h1, _⟩
  · omega
  · exact ⟨g, cap, h1⟩
theorem place_calls (on : Int) (n : Nat) (h0 : 0 < n) (h1 : n < 4611686018427387904) : ∃ i : Nat, i < n ∧ ∀ w : World, Calls Try.prog 52 #[.int .i64 on, .int .i64 (n : Int)] w fun e w' => e = .returned (.int .i64 (i : Int)) ∧ Below w.heap.size w w' := by
  have hm := Int.tmod_lt_of_pos on (show (0 : Int) < (n : Int) by omega)
  have hm2 : -(n : Int) < Int.tmod on n := by
    have := Int.tmod_lt_of_pos (-on) (show (0 : Int) < (n : Int) by omega)
    rw [Int.neg_tmod] at this
    omega
  by_cases hneg : Int.tmod on n < 0
  · refine ⟨(Int.tmod on n + n).toNat, by omega, fun w => ?_⟩
    have e : musterref02_Place.f on n = some (((Int.tmod on n + n).toNat : Nat) : Int) := by
      unfold musterref02_Place.f
      rw [if_neg (by omega), if_pos hneg, show wrap64 (Int.tmod on n + n) = Int.tmod on n + n from by unfold wrap64; omega, Int.toNat_of_nonneg (by omega)]
    exact (musterref02_Place.calls on n _ w e).mono (fun e w' ⟨h1, h2⟩ => ⟨h1, h2.below⟩)
  · refine ⟨(Int.tmod on n).toNat, by omega, fun w => ?_⟩
    have e : musterref02_Place.f on n = some (((Int.tmod on n).toNat : Nat) : Int) := by
      unfold musterref02_Place.f
      rw [if_neg (by omega), if_neg hneg, Int.toNat_of_nonneg (by omega)]
    exact (musterref02_Place.calls on n _ w e).mono (fun e w' ⟨h1, h2⟩ => ⟨h1, h2.below⟩)
structure Opn where
  kind : Int
  on : Int
  key : ByteArray
  val : Int
def OpsAt (w : World) (A : Option Addr) (l : List Opn) : Prop := ∀ i (h : i < l.length), ∃ ad, A = some ad ∧ w.cell? (ad.add (i * 4)) = some (.int .i64 l[i].kind) ∧ w.cell? (ad.add (i * 4 + 1)) = some (.int .i64 l[i].on) ∧ w.cell? (ad.add (i * 4 + 2)) = some (.string l[i].key) ∧ w.cell? (ad.add (i * 4 + 3)) = some (.int .i64 l[i].val)
theorem OpsAt.keep {w w' : World} {A : Option Addr} {l : List Opn} (h : OpsAt w A l) (k : T.Kept w w') : OpsAt w' A l := fun i hi => by
  obtain ⟨ad, e, h0, h1, h2, h3⟩ := h i hi
  exact ⟨ad, e, k.cell h0, k.cell h1, k.cell h2, k.cell h3⟩
end Go.Proofs.Ytjhgknagmiekeaa.N
set_option linter.unusedVariables false
set_option linter.unusedSimpArgs false
namespace Go.Proofs.Ytjhgknagmiekeaa.T
open Go.RowKit Go.Lib Go.Proofs Go.Proofs.YtjhgknagmiekeaaW.PrintWords
def kAB : ByteArray := ⟨#[97, 98]⟩
def kABC : ByteArray := ⟨#[97, 98, 99]⟩
def kAX : ByteArray := ⟨#[97, 120]⟩
def kC : ByteArray := ⟨#[99]⟩
def kA : ByteArray := ⟨#[97]⟩
def kB : ByteArray := ⟨#[98]⟩
def kX : ByteArray := ⟨#[120]⟩
def sh0 (b : Nat) (m : Value) : Nd := .mk b ⟨#[]⟩ none [] m
def sh1 (b b1 : Nat) (l0 : Lf) (m m1 : Value) : Nd := .mk b ⟨#[]⟩ none [.mk b1 kAB (some l0) [] m1] m
def sh2 (b b1 b2 : Nat) (l0 l1 : Lf) (m m1 m2 : Value) : Nd := .mk b ⟨#[]⟩ none [.mk b1 kAB (some l0) [.mk b2 kC (some l1) [] m2] m1] m
def sh3 (b b1 b2 b3 b4 : Nat) (l0 l1 l2 : Lf) (m m1 m2 m3 m4 : Value) : Nd := .mk b ⟨#[]⟩ none [.mk b3 kA none [.mk b1 kB (some l0) [.mk b2 kC (some l1) [] m2] m1, .mk b4 kX (some l2) [] m4] m3] m
theorem step1 (b : Nat) (m : Value) (l : Lf) (ns : Sup) : insN (sh0 b m) kAB l ns = sh1 (ns 0).1 (ns 1).1 l (ns 0).2 (ns 1).2 := by
  rw [insN, dif_neg (by decide)]
  rfl
theorem step2 (b b1 : Nat) (l0 : Lf) (m m1 : Value) (l : Lf) (ns : Sup) : insN (sh1 b b1 l0 m m1) kABC l ns = sh2 (ns 0).1 (ns 1).1 (ns 2).1 l0 l (ns 0).2 (ns 1).2 (ns 2).2 := by
  have e1 : kidN (sh1 b b1 l0 m m1) kABC = some (.mk b1 kAB (some l0) [] m1) := rfl
  have e2 : insN (.mk b1 kAB (some l0) [] m1) kC l (fun j => ns (j + 1)) = .mk (ns 1).1 kAB (some l0) [.mk (ns 2).1 kC (some l) [] (ns 2).2] (ns 1).2 := by
    rw [insN, dif_neg (by decide)]
    rfl
  have e3 : kABC.extract (comB kAB kABC) kABC.size = kC := by decide
  rw [insN, dif_neg (by decide)]
  simp only [e1]
  have e4 : 0 < comB (Nd.mk b1 kAB (some l0) [] m1).label kABC ∧ comB (Nd.mk b1 kAB (some l0) [] m1).label kABC = (Nd.mk b1 kAB (some l0) [] m1).label.size := by
    show 0 < comB kAB kABC ∧ comB kAB kABC = kAB.size
    decide
  rw [dif_pos e4]
  have e5 : kABC.extract (comB (Nd.mk b1 kAB (some l0) [] m1).label kABC) kABC.size = kC := e3
  rw [e5, e2]
  rfl
theorem step3 (b b1 b2 : Nat) (l0 l1 : Lf) (m m1 m2 : Value) (l : Lf) (ns : Sup) : insN (sh2 b b1 b2 l0 l1 m m1 m2) kAX l ns = sh3 (ns 0).1 (ns 2).1 b2 (ns 1).1 (ns 3).1 l0 l1 l (ns 0).2 m1 m2 (ns 1).2 (ns 3).2 := by
  have e1 : kidN (sh2 b b1 b2 l0 l1 m m1 m2) kAX = some (.mk b1 kAB (some l0) [.mk b2 kC (some l1) [] m2] m1) := rfl
  rw [insN, dif_neg (by decide)]
  simp only [e1]
  have e4 : ¬ (0 < comB (Nd.mk b1 kAB (some l0) [.mk b2 kC (some l1) [] m2] m1).label kAX ∧ comB (Nd.mk b1 kAB (some l0) [.mk b2 kC (some l1) [] m2] m1).label kAX = (Nd.mk b1 kAB (some l0) [.mk b2 kC (some l1) [] m2] m1).label.size) := by
    show ¬ (0 < comB kAB kAX ∧ comB kAB kAX = kAB.size)
    decide
  rw [dif_neg e4]
  rfl
theorem had1 (b : Nat) (m : Value) : findN (sh0 b m) kAB = none := by
  rw [findN, dif_neg (by decide)]
  rfl
theorem had2 (b b1 : Nat) (l0 : Lf) (m m1 : Value) : findN (sh1 b b1 l0 m m1) kABC = none := by
  have e1 : kidN (sh1 b b1 l0 m m1) kABC = some (.mk b1 kAB (some l0) [] m1) := rfl
  have e2 : findN (.mk b1 kAB (some l0) [] m1) kC = none := by
    rw [findN, dif_neg (by decide)]
    rfl
  rw [findN, dif_neg (by decide)]
  simp only [e1]
  have e4 : 0 < comB (Nd.mk b1 kAB (some l0) [] m1).label kABC ∧ comB (Nd.mk b1 kAB (some l0) [] m1).label kABC = (Nd.mk b1 kAB (some l0) [] m1).label.size := by
    show 0 < comB kAB kABC ∧ comB kAB kABC = kAB.size
    decide
  have e5 : kABC.extract (comB (Nd.mk b1 kAB (some l0) [] m1).label kABC) kABC.size = kC := by
    show kABC.extract (comB kAB kABC) kABC.size = kC
    decide
  rw [dif_pos e4, e5, e2]
theorem had3 (b b1 b2 : Nat) (l0 l1 : Lf) (m m1 m2 : Value) : findN (sh2 b b1 b2 l0 l1 m m1 m2) kAX = none := by
  have e1 : kidN (sh2 b b1 b2 l0 l1 m m1 m2) kAX = some (.mk b1 kAB (some l0) [.mk b2 kC (some l1) [] m2] m1) := rfl
  rw [findN, dif_neg (by decide)]
  simp only [e1]
  have e4 : ¬ (0 < comB (Nd.mk b1 kAB (some l0) [.mk b2 kC (some l1) [] m2] m1).label kAX ∧ comB (Nd.mk b1 kAB (some l0) [.mk b2 kC (some l1) [] m2] m1).label kAX = (Nd.mk b1 kAB (some l0) [.mk b2 kC (some l1) [] m2] m1).label.size) := by
    show ¬ (0 < comB kAB kAX ∧ comB kAB kAX = kAB.size)
    decide
  rw [dif_neg e4]
theorem long3 (b b1 b2 b3 b4 : Nat) (l0 l1 l2 : Lf) (m m1 m2 m3 m4 : Value) : longN (sh3 b b1 b2 b3 b4 l0 l1 l2 m m1 m2 m3 m4) ⟨#[97, 98, 100]⟩ = some l0 := by kernel_rfl
theorem reach3 (b b1 b2 b3 b4 : Nat) (l0 l1 l2 : Lf) (m m1 m2 m3 m4 : Value) : reachN (sh3 b b1 b2 b3 b4 l0 l1 l2 m m1 m2 m3 m4) ⟨#[97, 121]⟩ = 1 := by kernel_rfl
end Go.Proofs.Ytjhgknagmiekeaa.T
set_option linter.unusedVariables false
set_option linter.unusedSimpArgs false
namespace Go.Proofs.Ytjhgknagmiekeaa.T
open Go.RowKit Go.Lib Go.Proofs Go.Proofs.YtjhgknagmiekeaaW.PrintWords
def key3 : Nat → ByteArray
  | 0 => kAB
  | 1 => kABC
  | _ => kAX
def Shape : Nat → Nd → Prop
  | 0, r => ∃ b m, r = sh0 b m
  | 1, r => ∃ b b1 l0 m m1, r = sh1 b b1 l0 m m1 ∧ l0.key = kAB ∧ l0.val = .int .i64 7
  | 2, r => ∃ b b1 b2 l0 l1 m m1 m2, r = sh2 b b1 b2 l0 l1 m m1 m2 ∧ l0.key = kAB ∧ l0.val = .int .i64 7
  | _, r => ∃ b b1 b2 b3 b4 l0 l1 l2 m m1 m2 m3 m4, r = sh3 b b1 b2 b3 b4 l0 l1 l2 m m1 m2 m3 m4 ∧ l0.key = kAB ∧ l0.val = .int .i64 7
theorem shape_next (i : Nat) (hi : i < 3) (r : Nd) (h : Shape i r) : findN r (key3 i) = none ∧ ∀ (l : Lf) ns, l.key = key3 i → l.val = .int .i64 (7 + (i : Int)) → Shape (i + 1) (insN r (key3 i) l ns) := by
  match i, hi, h with
  | 0, _, h =>
    obtain ⟨b, m, rfl⟩ := h
    exact ⟨had1 b m, fun l ns h1 h2 => ⟨_, _, l, _, _, step1 b m l ns, h1, h2⟩⟩
  | 1, _, h =>
    obtain ⟨b, b1, l0, m, m1, rfl, h1, h2⟩ := h
    exact ⟨had2 _ _ _ _ _, fun l ns _ _ => ⟨_, _, _, l0, l, _, _, _, step2 _ _ _ _ _ _ _, h1, h2⟩⟩
  | 2, _, h =>
    obtain ⟨b, b1, b2, l0, l1, m, m1, m2, rfl, h1, h2⟩ := h
    exact ⟨had3 _ _ _ _ _ _ _ _, fun l ns _ _ => ⟨_, _, _, _, _, l0, l1, l, _, _, _, _, _, step3 _ _ _ _ _ _ _ _ _ _, h1, h2⟩⟩
theorem key3_size (i : Nat) : (key3 i).size < 4000000000000 := by
  match i with
  | 0 => decide
  | 1 => decide
  | n + 2 => show kAX.size < _; decide
def threeO : Obj := .cells #[.string ⟨#[97, 98]⟩, .string ⟨#[97, 98, 99]⟩, .string ⟨#[97, 120]⟩] 9
theorem three_cell {w : World} {g : Nat} (h : w.heap[g]? = some threeO) (i : Nat) (hi : i < 3) : w.cell? ⟨g, i, none⟩ = some (.string (key3 i)) := by
  unfold threeO at h
  rw [blk_cell h]
  match i, hi with
  | 0, _ => rfl
  | 1, _ => rfl
  | 2, _ => rfl
set_option maxHeartbeats 8000000 in
set_option maxRecDepth 100000 in
theorem alive (w : World) : Calls Try.prog 36 #[] w fun e w' => e = .returned (.bool true) ∧ Below w.heap.size w w' := by
  have q0 := Aside0.mk (treeNew w)
  go_enter Try.func36, Try.ntmps36
  go_wp2_with (go_at_call 45; refine q0.out.mono ?_)
  rintro e w1 ⟨tb, b, m, rfl, ht, hm, hb1, hb2, hB⟩
  have q1 := Aside0.mk (treeLen w1 tb (emptyN b m) 0 ht)
  have H1 := Aside0.mk (And.intro ht hB)
  clear ht hm hb1 hb2 hB q0
  unfold ptr at q1 ⊢
  go_wp2_with (go_at_call 50; refine q1.out.mono ?_; rintro e w2 ⟨rfl, hw2⟩; subst hw2)
  clear q1
  have ht0 := H1.out.1.keep (Kept.of ((Below.refl _ w2).alloc (Nat.le_refl _) threeO))
  have HT0 := Aside0.mk ht0
  clear ht0
  go_loopg [1, 20] 4 (fun kq v1 v20 w' => ∃ (i tb : Nat) (root : Nd), v1 = .pointer (some ⟨tb, 0, none⟩) ∧ v20 = .int .i64 (i : Int) ∧ Aside0 (i + kq = 4 ∧ i ≤ 3) ∧ Aside0 (TrAt w' tb root i ∧ Good root ∧ Shape i root) ∧ Aside0 (w'.heap[w2.heap.size]? = some threeO ∧ Below w.heap.size w w'))
  case atStart => exact ⟨0, tb, emptyN b m, rfl, rfl, ⟨by omega⟩, ⟨HT0.out, good_empty b m, ⟨b, m, rfl⟩⟩, ⟨heap_alloc_new w2 _, H1.out.2.alloc H1.out.2.size _⟩⟩
  case round =>
    obtain ⟨i, tb, root, rfl, rfl, HI, HT, HB⟩ := hrel
    by_cases hi : i < 3
    · have cc := three_cell HB.out.1 i hi
      have hsn := shape_next i hi root HT.out.2.2
      have q2 := treeInsert wr tb root (i : Int) (7 + (i : Int)) (key3 i) HT.out.1 HT.out.2.1.ok HT.out.2.1.sm (key3_size i) (by omega) (by omega)
      have HSN := Aside0.mk hsn
      have hks := key3_size i
      rw [hsn.1] at q2
      obtain ⟨k, ek⟩ : ∃ k, key3 i = k := ⟨_, rfl⟩
      rw [ek] at q2 cc HSN hks
      have q3 := Aside0.mk q2
      clear hsn q2 ek
      unfold ptr at q3
      go_wp2_with (go_at_call 43; refine q3.out.mono ?_)
      rintro e w3 ⟨tb2, lb, m2, ns, had, old, rfl, ht, ho, h1, h2, h3, h4, h5⟩
      have eh : had = false := by simpa [hadOld] using congrArg Prod.fst ho
      subst eh
      have H2 := Aside0.mk (And.intro ht h5)
      clear ht ho h1 h2 h3 h4 h5 q3
      go_wp2_with fail
      go_roundg (3 - i)
      case measure => have := HI.out; omega
      case rel =>
        refine ⟨i + 1, tb2, _, rfl, by simp, ⟨by have := HI.out; omega⟩, ⟨?_, good_ins HT.out.2.1 k hks ⟨lb, k, .int .i64 (7 + (i : Int)), m2⟩ rfl ns, HSN.out.2 _ ns rfl rfl⟩, ⟨(Kept.of H2.out.2).at HB.out.1, HB.out.2.trans ⟨H2.out.2.os, H2.out.2.tape, H2.out.2.output, H2.out.2.size, fun x hx => H2.out.2.block x (by have := HB.out.2.size; omega)⟩⟩⟩
        have := H2.out.1
        exact this
    · have hi3 : i = 3 := by have := HI.out; omega
      subst hi3
      obtain ⟨b0, b1, b2, b3, b4, l0, l1, l2, m0, m1, m2, m3, m4, er, ek, ev⟩ := HT.out.2.2
      have q2 := treeLongest wr tb root 3 ⟨#[97, 98, 100]⟩ HT.out.1 HT.out.2.1.ok HT.out.2.1.sm HT.out.2.1.top (by decide)
      have el : longN root ⟨#[97, 98, 100]⟩ = some l0 := by rw [er]; exact long3 _ _ _ _ _ _ _ _ _ _ _ _ _
      have et : toldV (some l0) = .tuple #[.string ⟨#[97, 98]⟩, .int .i64 7, .bool true] := by show Value.tuple #[.string l0.key, l0.val, .bool true] = _; rw [ek, ev]; rfl
      rw [el, et] at q2
      have ere : reachN root ⟨#[97, 121]⟩ = 1 := by rw [er]; exact reach3 _ _ _ _ _ _ _ _ _ _ _ _ _
      have HE := Aside0.mk ere
      have q3 := Aside0.mk q2
      clear q2 el et er ek ev ere
      unfold ptr at q3
      go_wp2_with (go_at_call 33; refine q3.out.mono ?_)
      rintro e w3 ⟨rfl, B3⟩
      have ht3 := HT.out.1.keep (Kept.of B3)
      have q4 := Aside0.mk (treeLen w3 tb root 3 ht3)
      have q5 := treeReach w3 tb root 3 ⟨#[97, 121]⟩ ht3 HT.out.2.1.ok HT.out.2.1.sm HT.out.2.1.top (by decide)
      rw [HE.out] at q5
      have exr : (⟨#[97, 121]⟩ : ByteArray).extract 0 1 = ⟨#[97]⟩ := by decide
      rw [exr] at q5
      have q6 := Aside0.mk q5
      have HB3 := Aside0.mk B3
      clear B3 ht3 q5 q3 exr
      unfold ptr at q4 q6
      go_wp2_with (first
        | (go_at_call 50; refine q4.out.mono ?_; rintro e w4 ⟨rfl, hw4⟩; subst hw4)
        | (go_at_call 89; refine q6.out.mono ?_; rintro e w5 ⟨rfl, _, B5⟩; have HB5 := Aside0.mk B5; clear B5))
      go_ret
      have hs3 := HB.out.2.size
      exact ⟨rfl, (HB.out.2.trans ⟨HB3.out.os, HB3.out.tape, HB3.out.output, HB3.out.size, fun x hx => HB3.out.block x (by omega)⟩).trans ⟨HB5.out.os, HB5.out.tape, HB5.out.output, HB5.out.size, fun x hx => HB5.out.block x (by have := HB3.out.size; omega)⟩⟩
end Go.Proofs.Ytjhgknagmiekeaa.T
