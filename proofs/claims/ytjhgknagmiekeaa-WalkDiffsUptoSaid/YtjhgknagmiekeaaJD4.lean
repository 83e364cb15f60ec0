/- joined: TR0 TR1 K15 TR2 TR3 TR4 TR5 TR6 TR7 TP1 TR8 TR9 TR10 -/
import Derived.Test.YtjhgknagmiekeaaChecked
import Derived.Test.YtjhgknagmiekeaaJD1
import Derived.Test.YtjhgknagmiekeaaShelf
import Derived.Handy
import Derived.Lib.SliceRun
import Derived.Laws.AppendOwn
import Derived.Laws.AppendOwnNone
import Derived.WalkSpells
import Derived.Test.YtjhgknagmiekeaaJD2
import Derived.Conc.SmallLaws
import Derived.Deep.RegionHeld3
import Derived.Shelf.Spec.SlicesInsertGrow
set_option linter.unusedVariables false
set_option linter.unusedSimpArgs false
namespace Go.Proofs.Ytjhgknagmiekeaa.T
open Go.RowKit Go.Proofs.YtjhgknagmiekeaaW.PrintWords
structure Lf where
  b : Nat
  key : ByteArray
  val : Value
  mark : Value
inductive Nd where
  | mk (b : Nat) (label : ByteArray) (leaf : Option Lf) (kids : List Nd) (mark : Value)
def Nd.b : Nd → Nat | .mk b _ _ _ _ => b
def Nd.label : Nd → ByteArray | .mk _ l _ _ _ => l
def Nd.leaf : Nd → Option Lf | .mk _ _ l _ _ => l
def Nd.kids : Nd → List Nd | .mk _ _ _ k _ => k
def Nd.mark : Nd → Value | .mk _ _ _ _ m => m
instance : Inhabited Nd := ⟨.mk 0 .empty none [] .nilFunc⟩
def ptr (b : Nat) : Value := .pointer (some ⟨b, 0, none⟩)
def leafPtr : Option Lf → Value | none => .pointer none | some l => ptr l.b
def ptrs (ks : List Nd) : List Value := ks.map (fun k => ptr k.b)
def Row (w : World) (v : Value) (ps : List Value) : Prop := (v = .slice none 0 0 ∧ ps = []) ∨ ∃ ad c, v = .slice (some ad) ps.length c ∧ ∀ i (h : i < ps.length), w.cell? (ad.add i) = some ps[i] ∧ ∃ cs fr, w.heap[ad.block]? = some (.cells cs 58 fr)
theorem Row.open {w : World} {v : Value} {ps : List Value} (h : Row w v ps) : ∃ A c, v = .slice A ps.length c ∧ ∀ i (h : i < ps.length), ∃ ad, A = some ad ∧ w.cell? (ad.add i) = some ps[i] := by
  rcases h with ⟨rfl, rfl⟩ | ⟨ad, c, rfl, h⟩
  · exact ⟨none, 0, rfl, fun i hi => by simp at hi⟩
  · exact ⟨some ad, c, rfl, fun i hi => ⟨ad, rfl, (h i hi).1⟩⟩
def LfAt (w : World) (o : Option Lf) : Prop := ∀ l, o = some l → w.heap[l.b]? = some (.cells #[.string l.key, l.val, l.mark] 127 (0, 0))
mutual
def NdAt (w : World) : Nd → Prop
  | .mk b label leaf kids mark => (∃ kv, w.heap[b]? = some (.cells #[.string label, leafPtr leaf, kv, mark] 117 (0, 0)) ∧ Row w kv (ptrs kids)) ∧ LfAt w leaf ∧ NdsAt w kids ∧ ∃ mb, mark = ptr mb
def NdsAt (w : World) : List Nd → Prop
  | [] => True
  | n :: r => NdAt w n ∧ NdsAt w r
end
def Kept (w w' : World) : Prop := ∀ k, k < w.heap.size → w'.heap[k]? = w.heap[k]?
theorem Kept.of {w w' : World} (h : Below w.heap.size w w') : Kept w w' := h.block
theorem Kept.cell {w w' : World} (h : Kept w w') {a : Addr} {v : Value} (hv : w.cell? a = some v) : w'.cell? a = some v :=
  (World.cell?_of_block (h a.block (World.block_lt_of_cell? w a hv))).trans hv
theorem Kept.at {w w' : World} (h : Kept w w') {b : Nat} {o : Obj} (hv : w.heap[b]? = some o) : w'.heap[b]? = some o :=
  (h b (Array.getElem?_eq_some_iff.1 hv).1).trans hv
theorem Row.keep {w w' : World} {v : Value} {ps : List Value} (h : Row w v ps) (hk : Kept w w') : Row w' v ps := by
  rcases h with h | ⟨ad, c, hv, hr⟩
  · exact .inl h
  · exact .inr ⟨ad, c, hv, fun i hi => ⟨hk.cell (hr i hi).1, by obtain ⟨cs, fr, h⟩ := (hr i hi).2; exact ⟨cs, fr, hk.at h⟩⟩⟩
theorem LfAt.keep {w w' : World} {o : Option Lf} (h : LfAt w o) (hk : Kept w w') : LfAt w' o := fun l e => hk.at (h l e)
mutual
theorem NdAt.keep {w w' : World} (hk : Kept w w') : ∀ t : Nd, NdAt w t → NdAt w' t
  | .mk b label leaf kids mark, h => by
    unfold NdAt at h ⊢
    obtain ⟨⟨kv, h1, h2⟩, h3, h4, h5⟩ := h
    exact ⟨⟨kv, hk.at h1, h2.keep hk⟩, h3.keep hk, NdsAt.keep hk kids h4, h5⟩
theorem NdsAt.keep {w w' : World} (hk : Kept w w') : ∀ ks : List Nd, NdsAt w ks → NdsAt w' ks
  | [], _ => by unfold NdsAt; trivial
  | n :: r, h => by
    unfold NdsAt at h ⊢
    exact ⟨NdAt.keep hk n h.1, NdsAt.keep hk r h.2⟩
end
theorem NdsAt.get {w : World} : ∀ {ks : List Nd}, NdsAt w ks → ∀ i (h : i < ks.length), NdAt w ks[i]
  | n :: r, h, 0, _ => by unfold NdsAt at h; exact h.1
  | n :: r, h, i + 1, hi => by unfold NdsAt at h; exact NdsAt.get (ks := r) h.2 i (by simpa using hi)
def fb (n : Nd) : Nat := (n.label.data.toList.getD 0 0).toNat
mutual
def Ok : Nd → Prop
  | .mk _ _ _ kids _ => (kids.map fb).Pairwise (· < ·) ∧ (∀ k ∈ kids, 0 < k.label.size) ∧ Oks kids
def Oks : List Nd → Prop
  | [] => True
  | n :: r => Ok n ∧ Oks r
end
theorem Oks.get : ∀ {ks : List Nd}, Oks ks → ∀ k ∈ ks, Ok k
  | n :: r, h, k, hk => by
    unfold Oks at h
    rcases List.mem_cons.1 hk with e | e
    · rw [e]; exact h.1
    · exact Oks.get h.2 k e
def pos : List Nat → Nat → Nat
  | [], _ => 0
  | y :: r, x => if y < x then pos r x + 1 else 0
theorem pos_le : ∀ (l : List Nat) (x : Nat), pos l x ≤ l.length
  | [], _ => Nat.le_refl _
  | y :: r, x => by unfold pos; have := pos_le r x; split <;> simp <;> omega
theorem pos_unique : ∀ (l : List Nat) (x i : Nat), l.Pairwise (· < ·) → i ≤ l.length → (∀ j (h : j < l.length), j < i → l[j] < x) → (∀ (h : i < l.length), x ≤ l[i]) → pos l x = i
  | [], x, i, _, hi, _, _ => by simp at hi; simp [pos, hi]
  | y :: r, x, 0, _, _, _, h2 => by unfold pos; have := h2 (by simp); simp at this; rw [if_neg (by omega)]
  | y :: r, x, i + 1, hp, hi, h1, h2 => by
    unfold pos
    have := h1 0 (by simp) (by omega)
    simp at this
    rw [if_pos this, pos_unique r x i (List.pairwise_cons.1 hp).2 (by simpa using hi) (fun j hj hji => h1 (j + 1) (by simp; omega) (by omega)) (fun h => h2 (by simp; omega))]
end Go.Proofs.Ytjhgknagmiekeaa.T
set_option linter.unusedVariables false
set_option linter.unusedSimpArgs false
namespace Go.Proofs.Ytjhgknagmiekeaa.T
open Go.RowKit Go.Proofs.YtjhgknagmiekeaaW.PrintWords
theorem blk_cell {w : World} {b : Nat} {cs : Array Value} {t : TypeId} {f : Nat × Nat} (h : w.heap[b]? = some (.cells cs t f)) (i : Nat) : w.cell? ⟨b, i, none⟩ = cs[i]? := Lib.cell_of_heap h i
theorem byte0 (s : ByteArray) (h : 0 < s.size) : (s[0].toNat : Nat) = (s.data.toList.getD 0 0).toNat := by
  have e : s[0] = s.data[0]'h := rfl
  rw [e]
  have h2 : 0 < s.data.toList.length := by rw [Array.length_toList]; exact h
  rw [List.getD_eq_getElem?_getD, List.getElem?_eq_getElem h2]
  simp
theorem byteAt (s : ByteArray) (i : Nat) (h : i < s.size) : (s[i].toNat : Nat) = (s.data.toList.getD i 0).toNat := by
  have e : s[i] = s.data[i]'h := rfl
  rw [e]
  have h2 : i < s.data.toList.length := by rw [Array.length_toList]; exact h
  rw [List.getD_eq_getElem?_getD, List.getElem?_eq_getElem h2]
  simp
set_option maxHeartbeats 4000000 in
set_option maxRecDepth 100000 in
theorem kid1 (w : World) (b : Nat) (label : ByteArray) (lp kv m : Value) (x : Nat) (hb : w.heap[b]? = some (.cells #[.string label, lp, kv, m] 117 (0, 0))) (hl : 0 < label.size) (hx : x < 256) :
    Calls Try.prog 147 #[ptr b, .int .u8 x] w fun e w' => e = .returned (.int .i64 (((label.data.toList.getD 0 0).toNat : Int) - x)) ∧ w' = w := by
  have c0 : w.cell? ⟨b, 0, none⟩ = some (.string label) := by rw [blk_cell hb]; rfl
  unfold ptr
  clear hb
  go_enter Try.func147, Try.ntmps147
  go_wp2_with fail
  go_ret
  have h0 := byte0 label hl
  have h1 : label[0].toNat < 256 := label[0].toNat_lt
  have e1 : wrap64 (label[0].toNat : Int) = label[0].toNat := by unfold wrap64; omega
  have e2 : wrap64 ((label[0].toNat : Int) - x) = (label[0].toNat : Int) - x := by unfold wrap64; omega
  rw [← h0, e1, e2]
  exact ⟨rfl, rfl⟩
def hit (fs : List Nat) (x : Nat) : Bool := decide (fs[pos fs x]? = some x)
theorem NdAt.parts {w : World} {n : Nd} (h : NdAt w n) : ∃ kv, w.heap[n.b]? = some (.cells #[.string n.label, leafPtr n.leaf, kv, n.mark] 117 (0, 0)) ∧ Row w kv (ptrs n.kids) ∧ LfAt w n.leaf ∧ NdsAt w n.kids := by
  cases n with
  | mk b label leaf kids mark =>
    unfold NdAt at h
    obtain ⟨⟨kv, h1, h2⟩, h3, h4, _⟩ := h
    exact ⟨kv, h1, h2, h3, h4⟩
theorem NdAt.markP {w : World} {n : Nd} (h : NdAt w n) : ∃ mb, n.mark = ptr mb := by
  cases n with
  | mk b label leaf kids mark =>
    unfold NdAt at h
    exact h.2.2.2
set_option maxHeartbeats 4000000 in
set_option maxRecDepth 100000 in
theorem bsearch (w : World) (kv : Value) (ks : List Nd) (x : Nat) (hr : Row w kv (ptrs ks)) (hk : NdsAt w ks) (hs : (ks.map fb).Pairwise (· < ·)) (hp : ∀ k ∈ ks, 0 < k.label.size) (hx : x < 256) (hz : ks.length < 1000000000000) :
    Calls Try.prog 146 #[kv, .int .u8 x, .func (.func 147) #[] #[]] w fun e w' => e = .returned (.tuple #[.int .i64 (pos (ks.map fb) x), .bool (hit (ks.map fb) x)]) ∧ w' = w := by
  obtain ⟨A, c, rfl, hA⟩ := hr.open
  have hlen : (ptrs ks).length = ks.length := by simp [ptrs]
  rw [hlen]
  have HA := Aside0.mk (show ∀ i (h : i < ks.length), ∃ ad, A = some ad ∧ w.cell? (ad.add i) = some (ptr ks[i].b) from fun i h => by
    obtain ⟨ad, h1, h2⟩ := hA i (by rw [hlen]; exact h)
    exact ⟨ad, h1, by simpa [ptrs] using h2⟩)
  have HK := Aside0.mk hk
  have HS := Aside0.mk (And.intro hs hp)
  clear hA hk hs hp hlen
  go_enter Try.func146, Try.ntmps146
  go_wp2_with fail
  go_loopg [9, 10] (ks.length + 1) (fun kq v9 v10 w' => ∃ (i j : Nat), v9 = .int .i64 (i : Int) ∧ v10 = .int .i64 (j : Int) ∧ Aside0 (i ≤ j ∧ j ≤ ks.length ∧ j + 1 ≤ kq + i) ∧ Aside0 (∀ t (h : t < (ks.map fb).length), t < i → (ks.map fb)[t] < x) ∧
     Aside0 (∀ t (h : t < (ks.map fb).length), j ≤ t → x ≤ (ks.map fb)[t]) ∧ Aside0 (w' = w))
  case atStart =>
    refine ⟨0, ks.length, rfl, rfl, ⟨by omega, by omega, by omega⟩, ⟨fun t h h2 => by omega⟩, ⟨fun t h h2 => by simp at h; omega⟩, ⟨rfl⟩⟩
  case round =>
    obtain ⟨i, j, rfl, rfl, HI, HL, HG, HH⟩ := hrel
    by_cases hij : i < j
    · have hm : (i + j) / 2 < ks.length := by have := HI.out; omega
      obtain ⟨ad, ea, ka⟩ := HA.out ((i + j) / 2) hm
      obtain ⟨kvm, k1, _, _, _⟩ := (HK.out.get _ hm).parts
      have hlb := HS.out.2 ks[(i + j) / 2] (List.getElem_mem _)
      obtain ⟨bm, ebm⟩ : ∃ bm, ks[(i + j) / 2].b = bm := ⟨_, rfl⟩
      obtain ⟨lm, elm⟩ : ∃ lm, ks[(i + j) / 2].label = lm := ⟨_, rfl⟩
      rw [ebm] at ka k1
      rw [elm] at k1 hlb
      have efb : ∀ (h : (i + j) / 2 < (ks.map fb).length), (ks.map fb)[(i + j) / 2] = (lm.data.toList.getD 0 0).toNat := fun h => by rw [← elm]; simp [fb]
      have HE := Aside0.mk efb
      subst ea
      clear ebm elm efb
      have ka' : wr.cell? (ad.add ((i + j) / 2)) = some (ptr bm) := by rw [HH.out]; exact ka
      have k1' : wr.heap[bm]? = some (.cells #[.string lm, leafPtr ks[(i + j) / 2].leaf, kvm, ks[(i + j) / 2].mark] 117 (0, 0)) := by rw [HH.out]; exact k1
      have q0 := kid1 wr bm lm _ _ _ x k1' hlb hx
      obtain ⟨y, ey⟩ : ∃ y, (lm.data.toList.getD 0 0).toNat = y := ⟨_, rfl⟩
      have efb := HE.out
      rw [ey] at q0 efb
      have q1 := Aside0.mk q0
      have HY := Aside0.mk efb
      have hm2 : (i + j) / 2 < (ks.map fb).length := by rw [List.length_map]; exact hm
      have HM := Aside0.mk hm2
      clear ka k1 k1' hlb q0 efb HE ey hm2
      go_wp2_with (go_at_call 147; refine q1.out.mono ?_)
      rintro e w' ⟨rfl, rfl⟩
      clear q1 ka'
      by_cases hlt : y < x
      · go_wp2_with fail
        go_roundg (j - i)
        case measure => have := HI.out; omega
        case rel =>
          refine ⟨(i + j) / 2 + 1, j, by simp, rfl, ⟨by have := HI.out; omega⟩, ⟨fun t h h2 => ?_⟩, HG, HH⟩
          have := HY.out HM.out
          by_cases e : t = (i + j) / 2
          · subst e; omega
          · have := List.pairwise_iff_getElem.1 HS.out.1 t ((i + j) / 2) h HM.out (by omega)
            omega
      · go_wp2_with fail
        go_roundg (j - i)
        case measure => have := HI.out; omega
        case rel =>
          refine ⟨i, (i + j) / 2, rfl, by simp, ⟨by have := HI.out; omega⟩, HL, ⟨fun t h h2 => ?_⟩, HH⟩
          have := HY.out HM.out
          by_cases e : t = (i + j) / 2
          · subst e; omega
          · have := List.pairwise_iff_getElem.1 HS.out.1 ((i + j) / 2) t HM.out h (by omega)
            omega
    · have hj : i = j := by have := HI.out; omega
      subst hj
      have hpos : pos (ks.map fb) x = i := pos_unique _ x i HS.out.1 (by have := HI.out; rw [List.length_map]; omega) (fun t h h2 => HL.out t h h2) (fun h => HG.out i h (Nat.le_refl _))
      have HP := Aside0.mk hpos
      clear hpos
      by_cases hin : i < ks.length
      · obtain ⟨ad, ea, ka⟩ := HA.out i hin
        obtain ⟨kvm, k1, _, _, _⟩ := (HK.out.get _ hin).parts
        have hlb := HS.out.2 ks[i] (List.getElem_mem _)
        subst ea
        have ka' : wr.cell? (ad.add i) = some (ptr ks[i].b) := by rw [HH.out]; exact ka
        rw [← HH.out] at k1
        have q0 := kid1 wr ks[i].b ks[i].label _ _ _ x k1 hlb hx
        obtain ⟨y, ey⟩ : ∃ y, (ks[i].label.data.toList.getD 0 0).toNat = y := ⟨_, rfl⟩
        rw [ey] at q0
        have q1 := Aside0.mk q0
        have HY := Aside0.mk ey
        obtain ⟨bm, ebm⟩ : ∃ bm, ks[i].b = bm := ⟨_, rfl⟩
        rw [ebm] at q1 ka'
        clear ka k1 hlb q0 ey ebm
        go_wp2_with (go_at_call 147; refine q1.out.mono ?_)
        rintro e w' ⟨rfl, rfl⟩
        clear q1 ka'
        go_wp2_with fail
        go_ret2
        refine ⟨?_, HH.out⟩
        have e1 : (((y : Int) - x) == 0) = hit (ks.map fb) x := by
          unfold hit
          rw [HP.out, List.getElem?_eq_getElem (by rw [List.length_map]; exact hin)]
          have e2 : (ks.map fb)[i]'(by rw [List.length_map]; exact hin) = y := by rw [← HY.out]; simp [fb]
          rw [e2]
          by_cases e3 : y = x
          · subst e3; simp
          · have : ¬ ((y : Int) - x = 0) := by omega
            simp [this, e3]
        rw [HP.out, ← e1]
        rfl
      · go_wp2_with fail
        go_ret2
        refine ⟨?_, HH.out⟩
        have e1 : hit (ks.map fb) x = false := by
          unfold hit
          rw [HP.out, List.getElem?_eq_none (by rw [List.length_map]; omega)]
          rfl
        rw [HP.out, e1]
        rfl
set_option maxHeartbeats 4000000 in
set_option maxRecDepth 100000 in
theorem kidOf (w : World) (b : Nat) (label : ByteArray) (lp kv m : Value) (ks : List Nd) (x : Nat) (hb : w.heap[b]? = some (.cells #[.string label, lp, kv, m] 117 (0, 0))) (hr : Row w kv (ptrs ks)) (hk : NdsAt w ks) (hs : (ks.map fb).Pairwise (· < ·)) (hp : ∀ k ∈ ks, 0 < k.label.size) (hx : x < 256) (hz : ks.length < 1000000000000) :
    Calls Try.prog 125 #[ptr b, .int .u8 x] w fun e w' => e = .returned (.tuple #[.int .i64 (pos (ks.map fb) x), .bool (hit (ks.map fb) x)]) ∧ w' = w := by
  have c2 : w.cell? ⟨b, 2, none⟩ = some kv := by rw [blk_cell hb]; rfl
  have q1 := Aside0.mk (bsearch w kv ks x hr hk hs hp hx hz)
  unfold ptr
  clear hb hr hk hs hp
  go_enter Try.func125, Try.ntmps125
  go_wp2_with (go_at_call 146; refine q1.out.mono ?_)
  rintro e w' ⟨rfl, rfl⟩
  go_wp2_with fail
  go_ret2
  exact ⟨rfl, rfl⟩
end Go.Proofs.Ytjhgknagmiekeaa.T
-- Written by a program of this session (wip/tools/printfam.py) out of the translation; hand-proved contracts set in. Lean checks it.
namespace Go.Proofs.Ytjhgknagmiekeaa.K
open Go.RowKit Go.Proofs.YtjhgknagmiekeaaW.PrintWords Go.Proofs.YtjhgknagmiekeaaW.PrintLast Go.Proofs.YtjhgknagmiekeaaW.PrintMore
attribute [local go_sem] max2_int min2_int max_two min_two max_three min_three max_four min_four   -- for this text's walks alone
set_option linter.unusedVariables false
set_option linter.unusedSimpArgs false
def radix_common.l0 : Nat → ByteArray → ByteArray → Int → Option (Int)
  | 0, _, _, _ => none
  | k + 1, x0, x1, x5 => if x5 < (x0.size : Int) then (if x5 < (x1.size : Int) then (if 0 ≤ x5 then (if (bt x0 x5) = (bt x1 x5) then (radix_common.l0 k x0 x1 (wrap64 (x5 + 1))) else (some x5)) else (none)) else (some x5)) else (some x5)
def radix_common.f (k : Nat) (a0 : ByteArray) (a1 : ByteArray) : Option (Int) := radix_common.l0 k a0 a1 0
theorem radix_common.mono_l : ∀ k, (∀ y0 y1 y2, LeO (radix_common.l0 k y0 y1 y2) (radix_common.l0 (k + 1) y0 y1 y2))
  | 0 => fun _ _ _ r h => by simp [radix_common.l0] at h
  | k + 1 => by
    have ih0 := radix_common.mono_l k
    · intro y0 y1 y2
      unfold radix_common.l0
      repeat' first
      | (with_reducible exact ih0 _ _ _)
      | (with_reducible exact LeO.refl _)
      | (with_reducible exact LeO.none _)
      | (with_reducible refine LeO.ite ?_ ?_)
      | (with_reducible refine LeO.bind ?_ (fun _ => ?_))
      | exact ih0 _ _ _
      | exact LeO.none _
      | refine LeO.ite ?_ ?_
      | refine LeO.bind ?_ (fun _ => ?_)
theorem radix_common.mono : ∀ a0 a1 k, LeO (radix_common.f k a0 a1) (radix_common.f (k + 1) a0 a1) := by
  intro a0 a1 k
  have ih0 := radix_common.mono_l k
  unfold radix_common.f
  repeat' first
      | (with_reducible exact ih0 _ _ _)
      | (with_reducible exact LeO.refl _)
      | (with_reducible exact LeO.none _)
      | (with_reducible refine LeO.ite ?_ ?_)
      | (with_reducible refine LeO.bind ?_ (fun _ => ?_))
      | exact ih0 _ _ _
      | exact LeO.none _
      | refine LeO.ite ?_ ?_
      | refine LeO.bind ?_ (fun _ => ?_)
set_option maxHeartbeats 8000000 in
set_option maxRecDepth 100000 in
theorem radix_common.calls (k : Nat) (a0 : ByteArray) (a1 : ByteArray) (r : Int) (w : World) (h : radix_common.f k a0 a1 = some r) :
    Calls Try.prog 131 #[.string a0, .string a1] w fun e w' => e = .returned (.int .i64 r) ∧ Drawn0 w w' := by
  have H : (radix_common.l0 k a0 a1 0) = some r := h
  clear h
  have H' := Aside0.mk H
  clear H
  go_enter Try.func131, Try.ntmps131
  go_wp2
  repeat (go_quiet (fail); try go_wp2)
  go_loopg [5] k (fun kq v5 w' => ∃ (x5_1 : Int), v5 = .int .i64 x5_1 ∧ Aside0 (radix_common.l0 kq a0 a1 x5_1 = some r) ∧ Aside0 (kq ≤ k) ∧ Drawn0 w w')
  case atStart => exact ⟨(0), (by first | rfl | (simp; done) | (simp [*]; done)), H', ⟨Nat.le_refl _⟩, by repeat (first | exact Drawn0.refl _ | apply Drawn0.step)⟩
  case round =>
    clear H'
    try clear c1
    try clear p2
    obtain ⟨x5_1, rfl, HA, HK1, ⟨m1, rfl⟩⟩ := hrel
    cases gk with
    | zero => exact absurd HA.out (by simp [radix_common.l0])
    | succ k1 =>
      have H := HA.out
      clear HA
      simp only [radix_common.l0] at H
      by_cases c3 : x5_1 < (a0.size : Int)
      · rw [if_pos c3] at H
        have c3b0 : decide (x5_1 < (a0.size : Int)) = true := decide_eq_true c3
        clear c3
        by_cases c4 : x5_1 < (a1.size : Int)
        · rw [if_pos c4] at H
          have c4b0 : decide (x5_1 < (a1.size : Int)) = true := decide_eq_true c4
          clear c4
          by_cases c5 : 0 ≤ x5_1
          · rw [if_pos c5] at H
            have c5b0 : decide (0 ≤ x5_1) = true := decide_eq_true c5
            clear c5
            by_cases c8 : (bt a0 x5_1) = (bt a1 x5_1)
            · rw [if_pos c8] at H
              have c8b0 : ((bt a0 x5_1) == (bt a1 x5_1)) = true := beq_iff_eq.mpr c8
              have c8b1 : ((bt a0 x5_1) != (bt a1 x5_1)) = false := bne_eq_false_iff_eq.mpr c8
              clear c8
              have H' := Aside0.mk H
              clear H
              have p6 : 0 ≤ (x5_1 : Int) := of_decide_eq_true (by first | (with_reducible assumption) | assumption)
              have q6 : x5_1 < (a0.size : Int) := of_decide_eq_true (by first | (with_reducible assumption) | assumption)
              have hx6 := bt_at a0 x5_1
              replace p6 := eq_true p6
              replace q6 := eq_true q6
              have p7 : 0 ≤ (x5_1 : Int) := of_decide_eq_true (by first | (with_reducible assumption) | assumption)
              have q7 : x5_1 < (a1.size : Int) := of_decide_eq_true (by first | (with_reducible assumption) | assumption)
              have hx7 := bt_at a1 x5_1
              replace p7 := eq_true p7
              replace q7 := eq_true q7
              go_wp2
              repeat (go_quiet (fail); try go_wp2)
              go_roundg k1
              case measure => have := HK1.out; omega
              case rel => exact ⟨(wrap64 (x5_1 + 1)), (by first | rfl | (simp; done) | (simp [*]; done)), H', ⟨by have := HK1.out; omega⟩, by repeat (first | exact Drawn0.refl _ | apply Drawn0.step)⟩
            · rw [if_neg c8] at H
              have c8b0 : ((bt a0 x5_1) == (bt a1 x5_1)) = false := beq_eq_false_iff_ne.mpr c8
              have c8b1 : ((bt a0 x5_1) != (bt a1 x5_1)) = true := bne_iff_ne.mpr c8
              obtain rfl := Option.some.inj H
              have p6 : 0 ≤ (x5_1 : Int) := of_decide_eq_true (by first | (with_reducible assumption) | assumption)
              have q6 : x5_1 < (a0.size : Int) := of_decide_eq_true (by first | (with_reducible assumption) | assumption)
              have hx6 := bt_at a0 x5_1
              replace p6 := eq_true p6
              replace q6 := eq_true q6
              have p7 : 0 ≤ (x5_1 : Int) := of_decide_eq_true (by first | (with_reducible assumption) | assumption)
              have q7 : x5_1 < (a1.size : Int) := of_decide_eq_true (by first | (with_reducible assumption) | assumption)
              have hx7 := bt_at a1 x5_1
              replace p7 := eq_true p7
              replace q7 := eq_true q7
              go_wp2
              repeat (go_quiet (fail); try go_wp2)
              go_ret
              exact ⟨by first | rfl | (simp; done) | (simp [*]; done), by repeat (first | exact Drawn0.refl _ | apply Drawn0.step)⟩
          · rw [if_neg c5] at H
            exact absurd H (by simp)
        · rw [if_neg c4] at H
          have c4b0 : decide (x5_1 < (a1.size : Int)) = false := decide_eq_false c4
          clear c4
          obtain rfl := Option.some.inj H
          go_wp2
          repeat (go_quiet (fail); try go_wp2)
          go_ret
          exact ⟨by first | rfl | (simp; done) | (simp [*]; done), by repeat (first | exact Drawn0.refl _ | apply Drawn0.step)⟩
      · rw [if_neg c3] at H
        have c3b0 : decide (x5_1 < (a0.size : Int)) = false := decide_eq_false c3
        clear c3
        obtain rfl := Option.some.inj H
        go_wp2
        repeat (go_quiet (fail); try go_wp2)
        go_ret
        exact ⟨by first | rfl | (simp; done) | (simp [*]; done), by repeat (first | exact Drawn0.refl _ | apply Drawn0.step)⟩
end Go.Proofs.Ytjhgknagmiekeaa.K
set_option linter.unusedVariables false
set_option linter.unusedSimpArgs false
namespace Go.Proofs.Ytjhgknagmiekeaa.T
open Go.RowKit Go.Proofs.YtjhgknagmiekeaaW.PrintWords Go.Proofs.Ytjhgknagmiekeaa.K
structure Qt (w w' : World) : Prop where
  os : w'.os = w.os
  tape : w'.tape = w.tape
  output : w'.output = w.output
  heap : w'.heap = w.heap
theorem Qt.refl (w : World) : Qt w w := ⟨rfl, rfl, rfl, rfl⟩
theorem Qt.trans {a b c : World} (h : Qt a b) (k : Qt b c) : Qt a c := ⟨k.os.trans h.os, k.tape.trans h.tape, k.output.trans h.output, k.heap.trans h.heap⟩
theorem Qt.drew {a b : World} (h : Qt a b) : Qt a b.drew := ⟨h.os, h.tape, h.output, h.heap⟩
theorem Qt.drewN {a b : World} (h : Qt a b) : ∀ n, Qt a (b.drewN n)
  | 0 => h
  | n + 1 => (Qt.drewN h n).drew
theorem Qt.of0 {a b : World} (h : Drawn0 a b) : Qt a b := by obtain ⟨n, rfl⟩ := h; exact (Qt.refl a).drewN n
theorem Qt.kept {a b : World} (h : Qt a b) : Kept a b := fun k _ => by rw [h.heap]
theorem Qt.below {a b : World} (B : Nat) (h : Qt a b) : Below B a b := ⟨h.os, h.tape, h.output, by rw [h.heap]; exact Nat.le_refl _, fun k _ => by rw [h.heap]⟩
def com : List UInt8 → List UInt8 → Nat
  | x :: xs, y :: ys => if x = y then com xs ys + 1 else 0
  | _, _ => 0
theorem com_le : ∀ (a b : List UInt8), com a b ≤ a.length ∧ com a b ≤ b.length
  | [], b => by simp [com]
  | x :: xs, [] => by simp [com]
  | x :: xs, y :: ys => by
    unfold com
    have := com_le xs ys
    split <;> simp <;> omega
def comB (a b : ByteArray) : Nat := com a.data.toList b.data.toList
theorem comB_le (a b : ByteArray) : comB a b ≤ a.size ∧ comB a b ≤ b.size := by
  have h := com_le a.data.toList b.data.toList
  rw [Array.length_toList, Array.length_toList] at h
  exact h
theorem drop_cons (s : ByteArray) (i : Nat) (h : i < s.size) : s.data.toList.drop i = s[i] :: s.data.toList.drop (i + 1) := by
  have e : s[i] = s.data[i]'h := rfl
  rw [e, List.drop_eq_getElem_cons (by rw [Array.length_toList]; exact h)]
  simp
theorem com_run (a b : ByteArray) (ha : a.size < 9000000000000000000) : ∀ (k i : Nat), i ≤ a.size → i ≤ b.size → a.size < k + i → radix_common.l0 k a b (i : Int) = some ((i + com (a.data.toList.drop i) (b.data.toList.drop i) : Nat) : Int)
  | 0, i, h1, h2, h3 => by omega
  | k + 1, i, h1, h2, h3 => by
    unfold radix_common.l0
    by_cases ca : i < a.size
    · rw [if_pos (by omega), drop_cons a i ca]
      by_cases cb : i < b.size
      · rw [if_pos (by omega), if_pos (by omega), drop_cons b i cb]
        have e1 : bt a (i : Int) = (a[i].toNat : Int) := by simp [bt, ca]
        have e2 : bt b (i : Int) = (b[i].toNat : Int) := by simp [bt, cb]
        rw [e1, e2]
        unfold com
        by_cases e : a[i] = b[i]
        · rw [if_pos (by rw [e]), if_pos e]
          have ew : wrap64 ((i : Int) + 1) = ((i + 1 : Nat) : Int) := by unfold wrap64; omega
          rw [ew, com_run a b ha k (i + 1) (by omega) (by omega) (by omega)]
          congr 1
          omega
        · rw [if_neg (fun h => e (UInt8.toNat_inj.1 (by omega))), if_neg e]
          simp
      · rw [if_neg (by omega)]
        have : b.data.toList.drop i = [] := List.drop_eq_nil_iff.2 (by rw [Array.length_toList]; have : b.data.size = b.size := rfl; omega)
        rw [this]
        simp [com]
    · rw [if_neg (by omega)]
      have : a.data.toList.drop i = [] := List.drop_eq_nil_iff.2 (by rw [Array.length_toList]; have : a.data.size = a.size := rfl; omega)
      rw [this]
      simp [com]
theorem common (w : World) (a b : ByteArray) (ha : a.size < 9000000000000000000) : Calls Try.prog 131 #[.string a, .string b] w fun e w' => e = .returned (.int .i64 (comB a b)) ∧ Qt w w' := by
  have h := com_run a b ha (a.size + 1) 0 (by omega) (by omega) (by omega)
  refine (radix_common.calls (a.size + 1) a b _ w h).mono ?_
  rintro e w' ⟨rfl, hd⟩
  refine ⟨?_, Qt.of0 hd⟩
  simp [comB]
def fbS (s : ByteArray) : Nat := (s.data.toList.getD 0 0).toNat
theorem fbS_lt (s : ByteArray) : fbS s < 256 := UInt8.toNat_lt _
def kidN (n : Nd) (rest : ByteArray) : Option Nd := if hit (n.kids.map fb) (fbS rest) then n.kids[pos (n.kids.map fb) (fbS rest)]? else none
def downN (n : Nd) (rest : ByteArray) : Option Nd := if rest.size = 0 then none else (kidN n rest).bind fun k => if Lib.hasPrefix rest.data.toList k.label.data.toList then some k else none
def optPtr : Option Nd → Value | none => .pointer none | some k => ptr k.b
theorem hit_lt {fs : List Nat} {x : Nat} (h : hit fs x = true) : pos fs x < fs.length := by
  have := of_decide_eq_true h
  exact (List.getElem?_eq_some_iff.1 this).1
end Go.Proofs.Ytjhgknagmiekeaa.T
set_option linter.unusedVariables false
set_option linter.unusedSimpArgs false
namespace Go.Proofs.Ytjhgknagmiekeaa.T
open Go.RowKit Go.Proofs.YtjhgknagmiekeaaW.PrintWords
theorem rise_ge : ∀ (l : List Nat), l.Pairwise (· < ·) → ∀ i (h : i < l.length), i ≤ l[i] := by
  intro l hl i
  induction i with
  | zero => intro h; exact Nat.zero_le _
  | succ i ih =>
    intro h
    have h1 := ih (by omega)
    have h2 := List.pairwise_iff_getElem.1 hl i (i + 1) (by omega) h (by omega)
    omega
theorem rise_len (l : List Nat) (N : Nat) (hl : l.Pairwise (· < ·)) (hN : ∀ x ∈ l, x < N) : l.length ≤ N := by
  by_cases h : l.length = 0
  · omega
  · have h1 := rise_ge l hl (l.length - 1) (by omega)
    have h2 := hN _ (List.getElem_mem (show l.length - 1 < l.length by omega))
    omega
theorem fb_lt (n : Nd) : fb n < 256 := UInt8.toNat_lt _
theorem Ok.parts {n : Nd} (h : Ok n) : (n.kids.map fb).Pairwise (· < ·) ∧ (∀ k ∈ n.kids, 0 < k.label.size) ∧ Oks n.kids := by
  cases n with
  | mk b label leaf kids mark => unfold Ok at h; exact h
theorem Ok.few {n : Nd} (h : Ok n) : n.kids.length ≤ 256 := by
  have h1 := rise_len _ 256 h.parts.1 (fun x hx => by obtain ⟨k, _, rfl⟩ := List.mem_map.1 hx; exact fb_lt k)
  simpa using h1
theorem full_of (s : ByteArray) (h : 0 < s.size) : s.toList.isEmpty = false := by
  rw [ByteArray.toList_eq]
  cases e : s.data.toList with
  | nil =>
    have h2 : s.data.toList.length = 0 := by rw [e]; rfl
    rw [Array.length_toList] at h2
    have h3 : s.data.size = s.size := rfl
    omega
  | cons x xs => rfl
set_option maxHeartbeats 4000000 in
set_option maxRecDepth 100000 in
theorem downC (w : World) (n : Nd) (hn : NdAt w n) (ho : Ok n) (rest : ByteArray) : Calls Try.prog 121 #[ptr n.b, .string rest] w fun e w' => e = .returned (optPtr (downN n rest)) ∧ w' = w := by
  obtain ⟨kv, hb, hr, hl, hk⟩ := hn.parts
  have hfew := ho.few
  obtain ⟨hs, hp, hoks⟩ := ho.parts
  by_cases h0 : rest.size = 0
  · have e0 : rest = ⟨#[]⟩ := by
      apply ByteArray.ext
      apply Array.eq_empty_of_size_eq_zero
      exact h0
    have ed : downN n rest = none := by unfold downN; rw [if_pos h0]
    rw [ed]
    subst e0
    clear hb hr hl hk hs hp hoks ed h0
    unfold ptr
    go_enter Try.func121, Try.ntmps121
    go_wp2_with fail
    go_ret
    exact ⟨rfl, rfl⟩
  · have hpos : 0 < rest.size := by omega
    have hne := full_of rest hpos
    have q0 := kidOf w n.b n.label _ kv _ n.kids (fbS rest) hb hr hk hs hp (fbS_lt rest) (by omega)
    have ex : ((fbS rest : Nat) : Int) = (rest[0].toNat : Int) := by unfold fbS; rw [← byte0 rest hpos]
    rw [ex] at q0
    have q1 := Aside0.mk q0
    have c2 : w.cell? ⟨n.b, 2, none⟩ = some kv := by rw [blk_cell hb]; rfl
    have hfewI : pos (n.kids.map fb) (fbS rest) < 1000 := by have := pos_le (n.kids.map fb) (fbS rest); rw [List.length_map] at this; omega
    have HB := Aside0.mk (And.intro hr hk)
    have HN := Aside0.mk (And.intro h0 hp)
    clear hb hl hk hs hp hoks q0 ex h0
    cases hh : hit (n.kids.map fb) (fbS rest) with
    | false =>
      have ed : downN n rest = none := by unfold downN kidN; rw [if_neg HN.out.1, hh]; rfl
      rw [ed]
      rw [hh] at q1
      have hh' := Aside0.mk hh
      clear hh ed hr
      unfold ptr at q1 ⊢
      go_enter Try.func121, Try.ntmps121
      go_wp2_with (go_at_call 125; refine q1.out.mono ?_)
      rintro e w' ⟨rfl, rfl⟩
      go_wp2_with fail
      go_ret
      exact ⟨rfl, rfl⟩
    | true =>
      have hlt := hit_lt hh
      rw [List.length_map] at hlt
      obtain ⟨i, ei⟩ : ∃ i, pos (n.kids.map fb) (fbS rest) = i := ⟨_, rfl⟩
      rw [hh] at q1
      rw [ei] at q1 hlt
      obtain ⟨A, c, rfl, hA⟩ := hr.open
      have hlen : (ptrs n.kids).length = n.kids.length := by simp [ptrs]
      obtain ⟨ad, ea, ka⟩ := hA i (by rw [hlen]; exact hlt)
      have ka' : w.cell? (ad.add i) = some (ptr n.kids[i].b) := by simpa [ptrs] using ka
      obtain ⟨kvk, hbk, _, _, _⟩ := (HB.out.2.get i hlt).parts
      have ck : w.cell? ⟨n.kids[i].b, 0, none⟩ = some (.string n.kids[i].label) := by rw [blk_cell hbk]; rfl
      subst ea
      rw [hlen] at c2
      have ed : downN n rest = if Lib.hasPrefix rest.data.toList n.kids[i].label.data.toList then some n.kids[i] else none := by
        unfold downN kidN
        rw [if_neg HN.out.1, hh, if_pos rfl, ei, List.getElem?_eq_getElem hlt]
        rfl
      rw [ed]
      obtain ⟨k, ek⟩ : ∃ k, n.kids[i] = k := ⟨_, rfl⟩
      rw [ek] at ka' ck ⊢
      have HE := Aside0.mk (And.intro hh ei)
      obtain ⟨len, elen⟩ : ∃ len, n.kids.length = len := ⟨_, rfl⟩
      rw [elen] at c2 hlt
      clear hh ei ed ek ka hA hbk hlen hfewI hfew elen
      unfold ptr at q1 ka' ⊢
      have q2 := Aside0.mk (Try.strings_HasPrefix rest k.label w)
      have hi1000 : i < len := hlt
      obtain ⟨r, er⟩ : ∃ r, optPtr (if Lib.hasPrefix rest.data.toList k.label.data.toList then some k else none) = r := ⟨_, rfl⟩
      rw [er]
      have HR := Aside0.mk er
      clear er
      go_enter Try.func121, Try.ntmps121
      go_wp2_with (go_at_call 125; refine q1.out.mono ?_)
      rintro e w' ⟨rfl, rfl⟩
      go_wp2_with (go_at_call 73; refine q2.out.mono ?_)
      rintro e w' ⟨rfl, rfl⟩
      cases hpx : Lib.hasPrefix rest.data.toList k.label.data.toList with
      | false =>
        have hr := HR.out
        rw [hpx] at hr
        have HH := Aside0.mk hr
        clear hr
        go_wp2_with fail
        go_ret
        exact ⟨congrArg Ending.returned HH.out, rfl⟩
      | true =>
        have hr := HR.out
        rw [hpx] at hr
        have HH := Aside0.mk hr
        clear hr
        go_wp2_with fail
        go_ret
        exact ⟨congrArg Ending.returned HH.out, rfl⟩
end Go.Proofs.Ytjhgknagmiekeaa.T
set_option linter.unusedVariables false
set_option linter.unusedSimpArgs false
namespace Go.Proofs.Ytjhgknagmiekeaa.T
open Go.RowKit Go.Proofs.YtjhgknagmiekeaaW.PrintWords
def watchObj (c : Nat) : Obj := .cells #[.int .u32 0, .int .i32 0, .int .u32 0, .chan (some c)] 154
theorem runNil (w : World) : (binOp .eql 115 (.slice none 0 0) (.slice none 0 0)).run Try.prog w = .ok (.bool true) w := by kernel_rfl
theorem runSome (w : World) (ad : Addr) (n c : Nat) : (binOp .eql 115 (.slice (some ad) n c) (.slice none 0 0)).run Try.prog w = .ok (.bool false) w := by kernel_rfl
theorem runChan (w : World) : (Instr.makeChan 152 (.int .i64 0)).run Try.prog w = .ok (.chan (some w.heap.size)) (w.alloc (.chan 0 #[] false 0 0 false)) := by kernel_rfl
set_option maxHeartbeats 4000000 in
set_option maxRecDepth 100000 in
theorem watchNew (w : World) : Calls Try.prog 99 #[] w fun e w' => e = .returned (ptr (w.heap.size + 1)) ∧ w' = (w.alloc (.chan 0 #[] false 0 0 false)).alloc (watchObj w.heap.size) := by
  go_enter Try.func99, Try.ntmps99
  go_wp2_with fail
  rw [runChan]
  go_upon
  go_wp2_with fail
  go_ret
  exact ⟨rfl, rfl⟩
theorem below_grown {B : Nat} {w w' : World} {row : Option Nat} (h : w.grownBy w' row) (hB : B ≤ w.heap.size) (hr : ∀ k, row = some k → B ≤ k) : Below B w w' :=
  ⟨h.os, h.tape, h.output, h.size, fun k hk => h.block k (by omega) (fun e => by have := hr k e.symm; omega)⟩
theorem leafPtr_form (o : Option Lf) : ∃ p, leafPtr o = .pointer p := by cases o with | none => exact ⟨_, rfl⟩ | some l => exact ⟨_, rfl⟩
theorem owns_form {w : World} {base e size n : Nat} {v : Value} {xs : List Value} (h : w.ownsRow base e size v n xs) : ∃ A c, v = .slice A n c := by
  rcases h.2 with ⟨rfl, rfl⟩ | ⟨g, cap, cur, rfl, _⟩
  · exact ⟨_, _, rfl⟩
  · exact ⟨_, _, rfl⟩
theorem cellA {w : World} {a : Addr} {v : Value} {o : Obj} (h : w.cell? a = some v) : (w.alloc o).cell? a = some v := (Kept.of ((Below.refl _ w).alloc (Nat.le_refl _) o)).cell h
theorem heap_new (w : World) (o : Obj) : (w.alloc o).heap[w.heap.size]? = some o := heap_alloc_new w o
theorem infoP : (Try.prog.info? 58).map (fun i => (i.zero, i.size, i.bytes)) = some (some (.pointer none), 1, 8) := by kernel_rfl
set_option maxHeartbeats 4000000 in
set_option maxRecDepth 100000 in
theorem clone (w : World) (kv : Value) (ps : List Value) (hr : Row w kv ps) (h1c : ∀ u ∈ ps, u.oneCell' = true) (hz : ps.length ≤ 256) :
    Calls Try.prog 145 #[kv] w fun e w' => ∃ v', e = .returned v' ∧ w'.ownsRow w.heap.size 58 1 v' ps.length ps ∧ Below w.heap.size w w' := by
  rcases hr with ⟨rfl, rfl⟩ | ⟨ad, c, rfl, hA⟩
  · go_enter Try.func145, Try.ntmps145
    go_wp2_with fail
    rw [runNil]
    go_upon
    go_wp2_with fail
    go_ret
    exact ⟨_, rfl, World.ownsRow_nil w w.heap.size 58 1, Below.refl _ _⟩
  · have own0 := Aside0.mk (show (w.alloc (.cells #[] 58)).ownsRow w.heap.size 58 1 (.slice (some ⟨w.heap.size, 0, none⟩) 0 0) 0 [] from World.ownsRow_lit (base := w.heap.size) (e := 58) (size := 1) w #[] 0 (Nat.le_refl _) (by decide) (by simp))
    obtain ⟨i0, hi, hz0, hz1, hz2⟩ := info_parts infoP
    have HA := Aside0.mk hA
    have H1 := Aside0.mk h1c
    obtain ⟨n, hn⟩ : ∃ n, ps.length = n := ⟨_, rfl⟩
    have HN := Aside0.mk hn
    rw [hn]
    rw [hn] at hz
    clear hA h1c hn
    go_enter Try.func145, Try.ntmps145
    go_wp2_with fail
    rw [runSome]
    go_upon
    go_wp2_with (at_builtin; refine wpList_append_own _ rfl _ _ 115 rfl w.heap.size 58 i0 (.pointer none) 1 8 Try.underlying115 hi hz0 hz1 hz2 rfl (by decide) (.slice (some ⟨w.heap.size, 0, none⟩) 0 0) 0 [] rfl own0.out ad n c ps rfl ?c1 ?c2 ?c3 ?c4 ?c5 ?c6 ?c7)
    case c1 => rw [HN.out]; simp
    case c2 =>
      intro j u hj
      obtain ⟨hj1, hj2⟩ := List.getElem?_eq_some_iff.1 hj
      have := (HA.out j hj1).1
      rw [hj2] at this
      exact (Kept.of ((Below.refl _ w).alloc (Nat.le_refl _) _)).cell this
    case c3 => exact H1.out
    case c4 => unfold maxLen; omega
    case c5 => omega
    case c6 => simp only [World.size_alloc]; omega
    intro v' w' ho hg _
    go_wp2_with fail
    go_ret
    exact ⟨_, rfl, ho, ((Below.refl _ w).alloc (Nat.le_refl _) _).trans (below_grown hg (by simp only [World.size_alloc]; omega) (fun k hk => by simp [Value.ownBlock] at hk; omega))⟩
structure FreshAt (w w' : World) (n : Nd) (b : Nat) (kv m : Value) : Prop where
  new : w.heap.size ≤ b
  blk : w'.heap[b]? = some (.cells #[.string n.label, leafPtr n.leaf, kv, m] 117 (0, 0))
  row : w'.ownsRow w.heap.size 58 1 kv n.kids.length (ptrs n.kids)
  off : kv.ownBlock ≠ some b
  mark : ∃ c, m = ptr (c + 1) ∧ w.heap.size ≤ c ∧ w'.heap[c]? = some (.chan 0 #[] false 0 0 false) ∧ w'.heap[c + 1]? = some (watchObj c)
  kept : Below w.heap.size w w'
set_option maxHeartbeats 4000000 in
set_option maxRecDepth 100000 in
theorem fresh (w : World) (n : Nd) (hn : NdAt w n) (hz : n.kids.length ≤ 256) :
    Calls Try.prog 124 #[ptr n.b] w fun e w' => ∃ b kv m, e = .returned (ptr b) ∧ FreshAt w w' n b kv m := by
  obtain ⟨kv, hb, hr, hl, hk⟩ := hn.parts
  have q1 := Aside0.mk (fun w1 (h : Row w1 kv (ptrs n.kids)) => clone w1 kv (ptrs n.kids) h (fun u hu => by obtain ⟨x, _, rfl⟩ := List.mem_map.1 hu; rfl) (by simpa [ptrs] using hz))
  have c0 : w.cell? ⟨n.b, 0, none⟩ = some (.string n.label) := by rw [blk_cell hb]; rfl
  have c1 : w.cell? ⟨n.b, 1, none⟩ = some (leafPtr n.leaf) := by rw [blk_cell hb]; rfl
  have c2 : w.cell? ⟨n.b, 2, none⟩ = some kv := by rw [blk_cell hb]; rfl
  have HB := Aside0.mk (And.intro hb (And.intro hr (And.intro hl hk)))
  clear hb hr hl hk
  obtain ⟨lp, elp⟩ := leafPtr_form n.leaf
  have HL := Aside0.mk elp
  rw [elp] at c1
  clear elp
  have elen : (ptrs n.kids).length = n.kids.length := by simp [ptrs]
  rw [elen] at q1
  clear elen
  unfold ptr
  go_enter Try.func124, Try.ntmps124
  go_wp2_with fail
  go_region_held3 (fun w' => w'.cell? ⟨n.b, 0, none⟩ = some (.string n.label) ∧ w'.cell? ⟨n.b, 1, none⟩ = some (.pointer lp) ∧ w'.cell? ⟨n.b, 2, none⟩ = some kv)
    (first | exact ⟨c0, c1, c2⟩ | exact ⟨d0, d1, d2⟩ | exact ⟨f0, f1, f2⟩ | exact ⟨cellA f0, cellA f1, cellA f2⟩)
    (first
      | (go_at_call 145; refine (q1.out _ ?_).mono ?_; (exact HB.out.2.1); rintro e w1 ⟨v1, rfl, o1, B1⟩; obtain ⟨A1, cp1, rfl⟩ := owns_form o1; have d0 := (Kept.of B1).cell c0; have d1 := (Kept.of B1).cell c1; have d2 := (Kept.of B1).cell c2; have HO := Aside0.mk (And.intro o1 B1); clear o1 B1)
      | (go_at_call 99; refine (watchNew _).mono ?_; rintro e w2 ⟨rfl, e2⟩; unfold ptr; have B2 : Below w1.heap.size w1 w2 := (by rw [e2]; exact ((Below.refl _ w1).alloc (Nat.le_refl _) _).alloc (by simp only [World.size_alloc]; omega) _); have f0 := (Kept.of B2).cell d0; have f1 := (Kept.of B2).cell d1; have f2 := (Kept.of B2).cell d2; have HW := Aside0.mk (And.intro e2 B2); clear e2 B2))
  go_wp2_with fail
  go_ret
  obtain ⟨e2, B2⟩ := HW.out
  obtain ⟨o1, B1⟩ := HO.out
  have s1 : w.heap.size ≤ w1.heap.size := B1.size
  have s2 : w2.heap.size = w1.heap.size + 2 := by rw [e2]; simp only [World.size_alloc]
  have k1 : Below w.heap.size w w1 := ⟨B1.os, B1.tape, B1.output, B1.size, B1.block⟩
  have k3 := (Below.refl w2.heap.size w2).alloc (Nat.le_refl _) (.cells #[.string n.label, .pointer lp, .slice A1 n.kids.length cp1, .pointer (some ⟨w1.heap.size + 1, 0, none⟩)] 117)
  have kk := Kept.of k3
  refine ⟨w2.heap.size, .slice A1 n.kids.length cp1, .pointer (some ⟨w1.heap.size + 1, 0, none⟩), rfl, ⟨by omega, ?_, ?_, ?_, ⟨w1.heap.size, rfl, by omega, ?_, ?_⟩, ?_⟩⟩
  · rw [HL.out]
    exact heap_new _ _
  · refine World.ownsRow.alloc ?_ _
    rw [e2]
    exact (o1.alloc _).alloc _
  · intro h
    have := (o1.lt _ h).2
    omega
  · refine kk.at ?_
    rw [e2]
    exact (Kept.of ((Below.refl _ (w1.alloc (.chan 0 #[] false 0 0 false))).alloc (Nat.le_refl _) _)).at (heap_new w1 _)
  · refine kk.at ?_
    rw [e2]
    have e3 : w1.heap.size + 1 = (w1.alloc (.chan 0 #[] false 0 0 false)).heap.size := by simp only [World.size_alloc]
    rw [e3]
    exact heap_new _ _
  · refine (k1.trans ?_).trans (⟨k3.os, k3.tape, k3.output, k3.size, fun k hk => k3.block k (by omega)⟩)
    exact ⟨B2.os, B2.tape, B2.output, B2.size, fun k hk => B2.block k (by omega)⟩
end Go.Proofs.Ytjhgknagmiekeaa.T
set_option linter.unusedVariables false
set_option linter.unusedSimpArgs false
namespace Go.Proofs.Ytjhgknagmiekeaa.T
open Go.RowKit Go.Lib Go.Proofs Go.Proofs.YtjhgknagmiekeaaW.PrintWords
set_option maxHeartbeats 4000000 in
set_option maxRecDepth 100000 in
theorem ins_shift (b off n c i vb voff m vc : Nat) (cs vs : List Value) (w : World) (hi : i < n) (hm : 0 < m) (hroom : n + m ≤ c) (hc63 : c ≤ 9223372036854775807) (hvb : vb ≠ b)
    (hcl : cs.length = n) (hvl : vs.length = m)
    (hcs : ∀ j v, cs[j]? = some v → w.cell? ⟨b, off + j, none⟩ = some v) (hsp : ∀ j, j < n + m → (w.cell? ⟨b, off + j, none⟩).isSome = true) (hfz : ∀ j, j < n + m → w.frozen? ⟨b, off + j, none⟩ = false)
    (hvs : ∀ j v, vs[j]? = some v → w.cell? ⟨vb, voff + j, none⟩ = some v) (h1c : ∀ v ∈ cs, v.oneCell' = true) (h1v : ∀ v ∈ vs, v.oneCell' = true)
    (tA tB : TypeId) (kA kB : Nat) (hsa : w.shape? vb = some (tA, kA)) (hsb : w.shape? b = some (tB, kB)) (hkB : kB ≠ 0) (hfa : w.frozen? ⟨vb, voff, none⟩ = false) (hfe : w.frozen? ⟨vb, kA, none⟩ = false) :
    Calls Try.prog 130 #[.slice (some ⟨b, off, none⟩) n c, .int .i64 i, .slice (some ⟨vb, voff, none⟩) m vc] w fun e w' =>
      e = .returned (.slice (some ⟨b, off, none⟩) (n + m) c) ∧ w' = (w.drew.setCells b (off + (i + m)) (cs.drop i)).setCells b (off + i) vs := by
  have u0 := run_underlying Try.underlying0; have u3 := run_underlying Try.underlying3; have u4 := run_underlying Try.underlying4; have u22 := run_underlying Try.underlying115
  have mixed : Try.prog.follows .mixedOrders = true := by kernel_rfl
  have hz1 : ¬ ((m : Int) = 0) := by omega
  have hz2 : ¬ ((i : Int) = (n : Int)) := by omega
  have hsz : (Try.prog.info? 58).map (·.size) = some 1 := by
    obtain ⟨i0, hi0, h0, h1, h2⟩ := info_parts infoP
    rw [hi0]; simp [h1]
  have hov : ∀ lb cb, (callFunc 150 #[.slice (some ⟨vb, voff, none⟩) m vc, .slice (some ⟨b, off + (i + m), none⟩) lb cb]).run Try.prog w = .ok (.value (.bool false)) w := fun lb cb => by
    rw [run_callFunc_extern Try.func150 (by kernel_rfl) (by kernel_rfl) (by kernel_rfl) (e := Extern.SlicesOverlaps.overlaps #[115, 115] #[4]) (by kernel_rfl),
      Lib.run_overlaps_apart w 115 4 58 Try.underlying115 1 Try.sizeOf58 ⟨vb, voff, none⟩ ⟨b, off + (i + m), none⟩ m vc lb cb hvb tA tB kA kB hsa hsb hkB hfa hfe]
    rfl
  have hdl : (cs.drop i).length = n - i := by rw [List.length_drop, hcl]
  have hw1 : IntKind.i64.wrap ((i : Int) + (m : Int)) = (i : Int) + (m : Int) := by rw [IntKind.wrap_i64]; omega
  have hb1 : (0 : Int) ≤ (i : Int) + (m : Int) := by omega
  have hin : i ≤ n := by omega
  have htn : ((i : Int) + (m : Int)).toNat = i + m := by omega
  have hb2 : ¬ (c = i + m) := by omega
  have hb3 : (i : Int) ≤ (n : Int) + (m : Int) := by omega
  have hb4 : ¬ (c = i) := by omega
  have hcp1 : ∀ ty dc sc, (Builtin.copy_ #[115, 115] ty #[.slice (some ⟨b, off + (i + m), none⟩) (n + m - (i + m)) dc, .slice (some ⟨b, off + i, none⟩) (n + m - i) sc]).run Try.prog w.drew = .ok (goInt (cs.drop i).length) (w.drew.setCells b (off + (i + m)) (cs.drop i)) := fun ty dc sc =>
    run_copy_cells w.drew _ _ ty 58 b (off + (i + m)) (n + m - (i + m)) dc ⟨b, off + i, none⟩ (n + m - i) sc (cs.drop i) Try.underlying115 hsz (by rw [hdl]; simp only [Nat.min_def]; split <;> omega)
      (fun j v hj => by rw [Addr.add_lit, Nat.add_assoc]; exact hcs (i + j) v (by rwa [List.getElem?_drop] at hj))
      (fun j hj => by rw [Nat.add_assoc]; exact hsp _ (by omega)) (fun j hj => by rw [Nat.add_assoc]; exact hfz _ (by omega)) (fun v hv => h1c v (List.mem_of_mem_drop hv))
  obtain ⟨W1, hW1⟩ : ∃ W1, W1 = w.drew.setCells b (off + (i + m)) (cs.drop i) := ⟨_, rfl⟩
  have hsp1 : ∀ k, k < n + m → (W1.cell? ⟨b, off + k, none⟩).isSome = true := fun k hk => by
    rw [hW1]
    exact isSome_setCells b _ _ _ (fun j hj => by rw [Nat.add_assoc]; exact hsp _ (by omega)) _ (hsp k hk)
  have hcp2 : ∀ (W : World), (∀ x, W.cell? x = W1.cell? x) → (∀ x, W.frozen? x = W1.frozen? x) → ∀ ty dc, (Builtin.copy_ #[115, 115] ty #[.slice (some ⟨b, off + i, none⟩) (n + m - i) dc, .slice (some ⟨vb, voff, none⟩) m vc]).run Try.prog W = .ok (goInt vs.length) (W.setCells b (off + i) vs) := fun W hWc hWf ty dc =>
    run_copy_cells W _ _ ty 58 b (off + i) (n + m - i) dc ⟨vb, voff, none⟩ m vc vs Try.underlying115 hsz (by rw [hvl]; simp only [Nat.min_def]; split <;> omega)
      (fun j v hj => by
        rw [Addr.add_lit, hWc, hW1, World.cell?_setCells_out b _ _ _ _ (fun h _ => absurd h hvb)]
        exact hvs j v hj)
      (fun j hj => by rw [hWc, Nat.add_assoc]; exact hsp1 _ (by omega)) (fun j hj => by rw [hWf, hW1, World.frozen?_setCells, Nat.add_assoc]; exact hfz _ (by omega)) h1v
  rw [← hW1] at hcp1
  go_enter Try.func130, Try.ntmps130
  go_wp2_with (simp only [hov])
  go_region_law_o (refine step_copy_runI rfl _ _ 115 115 rfl _ _ (by simp [Act.eval, Act.put]) (by simp [Act.eval, Act.put]) (hcp1 _ _ _) ?_)
  go_wp2_with (at_builtin; refine wpList_copy_runI _ rfl _ _ 115 115 rfl _ _ rfl rfl (hcp2 _ (fun _ => rfl) (fun _ => rfl) _ _) ?_)
  go_ret
  first | exact ⟨rfl, rfl⟩ | exact ⟨rfl, by rw [hW1]⟩
set_option maxHeartbeats 4000000 in
set_option maxRecDepth 100000 in
theorem ins_end_room (b off n c vb voff m vc : Nat) (vs : List Value) (w : World) (hm : 0 < m) (hroom : n + m ≤ c) (hc63 : c ≤ 9223372036854775807)
    (hvl : vs.length = m) (hsp : ∀ j, j < m → (w.cell? ⟨b, off + n + j, none⟩).isSome = true) (hfz : ∀ j, j < m → w.frozen? ⟨b, off + n + j, none⟩ = false)
    (hvs : ∀ j v, vs[j]? = some v → w.cell? ⟨vb, voff + j, none⟩ = some v) (h1v : ∀ v ∈ vs, v.oneCell' = true) :
    Calls Try.prog 130 #[.slice (some ⟨b, off, none⟩) n c, .int .i64 n, .slice (some ⟨vb, voff, none⟩) m vc] w fun e w' =>
      e = .returned (.slice (some ⟨b, off, none⟩) (n + m) c) ∧ w' = w.setCells b (off + n) vs := by
  have u0 := run_underlying Try.underlying0; have u3 := run_underlying Try.underlying3; have u4 := run_underlying Try.underlying4; have u22 := run_underlying Try.underlying115
  have mixed : Try.prog.follows .mixedOrders = true := by kernel_rfl
  have hz1 : ¬ ((m : Int) = 0) := by omega
  have hsrc : Src Try.prog 1 115 (.slice (some ⟨vb, voff, none⟩) m vc) m vs w := Src.ofSlice w Try.underlying115 ⟨vb, voff, none⟩ m vc vs (by omega) (fun j u hj => by rw [Addr.add_lit]; exact hvs j u hj) h1v
  go_enter Try.func130, Try.ntmps130
  go_wp2_with (at_builtin; refine wpList_append_room1 _ rfl _ _ 115 115 rfl 58 _ _ Try.underlying115 infoP b off n c rfl _ rfl m vs hsrc hroom (by rw [hvl]; exact hsp) (by rw [hvl]; exact hfz) ?_)
  go_ret
  exact ⟨rfl, rfl⟩
set_option maxHeartbeats 4000000 in
set_option maxRecDepth 100000 in
theorem ins_end_grow (base : Option Addr) (n c vb voff m vc : Nat) (cs vs : List Value) (w : World) (hm : 0 < m) (hnc : n ≤ c) (hroom : c < n + m) (hbig : (n + m) * 8 ≤ 140737488355328)
    (hcl : cs.length = n) (hvl : vs.length = m) (hnil : base = none → n = 0)
    (hcs : ∀ a, base = some a → ∀ j v, cs[j]? = some v → w.cell? (a.add j) = some v)
    (hvs : ∀ j v, vs[j]? = some v → w.cell? ⟨vb, voff + j, none⟩ = some v) (h1v : ∀ v ∈ vs, v.oneCell' = true) :
    Calls Try.prog 130 #[.slice base n c, .int .i64 n, .slice (some ⟨vb, voff, none⟩) m vc] w fun e w' =>
      e = .returned (.slice (some ⟨w.heap.size, 0, none⟩) (n + m) (grownCap w (n + m) c 58)) ∧
      w' = w.drew.alloc (.cells ((cs ++ vs).toArray ++ Builtin.zeroCells (Value.pointer none).cells (grownCap w (n + m) c 58 - (n + m))) 58) := by
  have u0 := run_underlying Try.underlying0; have u3 := run_underlying Try.underlying3; have u4 := run_underlying Try.underlying4; have u22 := run_underlying Try.underlying115
  obtain ⟨i0, hi0, hz0, hzs, hzb⟩ := info_parts infoP
  have mixed : Try.prog.follows .mixedOrders = true := by kernel_rfl
  have hz1 : ¬ ((m : Int) = 0) := by omega
  have hsrc : Src Try.prog i0.size 115 (.slice (some ⟨vb, voff, none⟩) m vc) m vs w := by
    rw [hzs]
    exact Src.ofSlice w Try.underlying115 ⟨vb, voff, none⟩ m vc vs (by omega) (fun j u hj => by rw [Addr.add_lit]; exact hvs j u hj) h1v
  have hold : (Builtin.firstCells i0.size n (.slice base n c)).run Try.prog w.drew = .ok cs.toArray w.drew := by
    rw [hzs]
    cases base with
    | none =>
      have h0 := hnil rfl
      subst h0
      rw [List.length_eq_zero_iff.1 hcl]
      exact run_firstCells_none w.drew 1 0 0 c
    | some a => exact run_firstCells_some w.drew 1 n a n c cs (by omega) (fun j v hj => hcs a rfl j v hj)
  have hrun : ∀ ty, (Builtin.append_ #[115, 115] ty #[.slice base n c, .slice (some ⟨vb, voff, none⟩) m vc]).run Try.prog w = _ := fun ty =>
    run_append_grow_src w 115 115 ty 58 i0 _ Try.underlying115 hi0 hz0 base n c cs hold _ m vs hsrc hroom (by omega) (by rw [hzb]; exact growslice_fits hroom hbig)
  go_enter Try.func130, Try.ntmps130
  cases base with
  | none =>
    have h0 := hnil rfl
    subst h0
    go_wp2_with (at_builtin; refine Lib.wpList_append_run _ rfl _ _ _ _ rfl _ _ rfl rfl _ _ (hrun _) ?_)
    go_ret
    exact ⟨rfl, rfl⟩
  | some a =>
    obtain ⟨ab, ao, asp⟩ := a
    go_wp2_with (at_builtin; refine Lib.wpList_append_run _ rfl _ _ _ _ rfl _ _ rfl rfl _ _ (hrun _) ?_)
    all_goals (go_ret; exact ⟨rfl, rfl⟩)
set_option maxHeartbeats 4000000 in
set_option maxRecDepth 100000 in
theorem ins_grow (b off n c i vb voff m vc : Nat) (cs vs : List Value) (w : World) (hi : i < n) (hm : 0 < m) (hnc : n ≤ c) (hroom : c < n + m) (hbig : (n + m) * 8 ≤ 140737488355328)
    (hcl : cs.length = n) (hvl : vs.length = m)
    (hcs : ∀ j v, cs[j]? = some v → w.cell? ⟨b, off + j, none⟩ = some v)
    (hvs : ∀ j v, vs[j]? = some v → w.cell? ⟨vb, voff + j, none⟩ = some v) (h1c : ∀ v ∈ cs, v.oneCell' = true) (h1v : ∀ v ∈ vs, v.oneCell' = true) :
    Calls Try.prog 130 #[.slice (some ⟨b, off, none⟩) n c, .int .i64 i, .slice (some ⟨vb, voff, none⟩) m vc] w fun e w' =>
      e = .returned (.slice (some ⟨w.heap.size, 0, none⟩) (n + m) (grownCap w (n + m) c 58)) ∧
      w' = (((w.alloc (.cells ((cs.take i).toArray ++ Builtin.zeroCells (Value.pointer none).cells (n + m - i) ++ Builtin.zeroCells (Value.pointer none).cells (grownCap w (n + m) c 58 - (n + m))) 58)).drew.setCells w.heap.size i vs).drew).setCells w.heap.size (i + m) (cs.drop i) := by
  have u0 := run_underlying Try.underlying0; have u3 := run_underlying Try.underlying3; have u4 := run_underlying Try.underlying4; have u22 := run_underlying Try.underlying115
  obtain ⟨i0, hi0, hz0, hzs, hzb⟩ := info_parts infoP
  have mixed : Try.prog.follows .mixedOrders = true := by kernel_rfl
  have hz1 : ¬ ((m : Int) = 0) := by omega
  have hz2 : ¬ ((i : Int) = (n : Int)) := by omega
  have hz3 : (c : Int) < (n : Int) + (m : Int) := by omega
  have hsz : (Try.prog.info? 58).map (·.size) = some 1 := by rw [hi0]; simp [hzs]
  have hbw : b < w.heap.size := block_lt_of_cell (hcs 0 _ (List.getElem?_eq_getElem (by omega)))
  have hvw : vb < w.heap.size := block_lt_of_cell (hvs 0 _ (List.getElem?_eq_getElem (by omega)))
  have hkk : (n : Int) + (m : Int) - (i : Int) = ((n + m - i : Nat) : Int) := by omega
  have hik : i + (n + m - i) = n + m := by omega
  have hold : (Builtin.firstCells i0.size i (.slice (some ⟨b, off, none⟩) i c)).run Try.prog w.drew = .ok (cs.take i).toArray w.drew := by
    rw [hzs]
    exact run_firstCells_some w.drew 1 i ⟨b, off, none⟩ i c (cs.take i) (by rw [List.length_take]; omega) (fun j v hj => by
      rw [Addr.add_lit]
      rw [List.getElem?_take] at hj
      split at hj
      · exact hcs j v hj
      · cases hj)
  have hrz : ∀ ty, (Builtin.append_ #[115, 3] ty #[.slice (some ⟨b, off, none⟩) i c, .int .i64 ((n : Int) + (m : Int) - (i : Int))]).run Try.prog w =
      .ok (.slice (some ⟨w.heap.size, 0, none⟩) (n + m) (grownCap w (n + m) c 58)) (w.drew.alloc (.cells ((cs.take i).toArray ++ Builtin.zeroCells (Value.pointer none).cells (n + m - i) ++ Builtin.zeroCells (Value.pointer none).cells (grownCap w (n + m) c 58 - (n + m))) 58)) := fun ty => by
    have h := Lib.run_append_grow_zeros w 115 3 ty 58 i0 _ .i64 .i64 Try.underlying115 Try.underlying3 hi0 hz0 (some ⟨b, off, none⟩) i c (cs.take i) hold (n + m - i) (by omega) (by omega) (by omega) (by omega) (by rw [hzb]; omega) (by rw [hzb, hik]; exact growslice_fits hroom hbig)
    rw [hik] at h
    rw [hkk]
    exact h
  obtain ⟨G, hG⟩ : ∃ G, G = grownCap w (n + m) c 58 := ⟨_, rfl⟩
  obtain ⟨ROW, hROW⟩ : ∃ ROW : Array Value, ROW = (cs.take i).toArray ++ Builtin.zeroCells (Value.pointer none).cells (n + m - i) ++ Builtin.zeroCells (Value.pointer none).cells (G - (n + m)) := ⟨_, rfl⟩
  rw [← hG] at hrz ⊢
  rw [← hROW] at hrz ⊢
  have hRl : n + m ≤ ROW.size := by
    rw [hROW]
    simp [Builtin.zeroCells, Value.cells]
    omega
  obtain ⟨W1, hW1⟩ : ∃ W1, W1 = w.drew.alloc (.cells ROW 58) := ⟨_, rfl⟩
  rw [← hW1] at hrz
  have hN : ∀ j, j < n + m → (W1.cell? ⟨w.heap.size, j, none⟩).isSome = true := fun j hj => by
    rw [hW1, World.cell?_alloc_at (w := w.drew) ROW _ w.heap.size j rfl, Array.getElem?_eq_getElem (by omega)]; rfl
  have hNf : ∀ j, W1.frozen? ⟨w.heap.size, j, none⟩ = false := fun j => by rw [hW1]; exact World.frozen?_alloc_at (w := w.drew) ROW _ w.heap.size j rfl
  have hOb : ∀ j v, w.cell? ⟨b, j, none⟩ = some v → W1.cell? ⟨b, j, none⟩ = some v := fun j v h => by rw [hW1, World.cell?_alloc_past (w := w.drew) _ b j hbw]; exact h
  have hOv : ∀ j v, w.cell? ⟨vb, j, none⟩ = some v → W1.cell? ⟨vb, j, none⟩ = some v := fun j v h => by rw [hW1, World.cell?_alloc_past (w := w.drew) _ vb j hvw]; exact h
  have hcpA : ∀ (W : World), (∀ x, W.cell? x = W1.cell? x) → (∀ x, W.frozen? x = W1.frozen? x) → ∀ ty dc, (Builtin.copy_ #[115, 115] ty #[.slice (some ⟨w.heap.size, i, none⟩) (n + m - i) dc, .slice (some ⟨vb, voff, none⟩) m vc]).run Try.prog W = .ok (goInt vs.length) (W.setCells w.heap.size i vs) := fun W hWc hWf ty dc =>
    run_copy_cells W _ _ ty 58 w.heap.size i (n + m - i) dc ⟨vb, voff, none⟩ m vc vs Try.underlying115 hsz (by rw [hvl]; simp only [Nat.min_def]; split <;> omega)
      (fun j v hj => by rw [Addr.add_lit, hWc]; exact hOv _ v (hvs j v hj))
      (fun j hj => by rw [hWc]; exact hN _ (by omega)) (fun j hj => by rw [hWf]; exact hNf _) h1v
  have hGn : n + m ≤ G := by rw [hG]; exact grownCap_ge w _ _ _
  have hG63 : G ≤ 9223372036854775807 := by
    have := grownCap_le_maxLen w (n + m) c 58 (by unfold maxLen; omega)
    rw [← hG] at this
    unfold maxLen at this
    omega
  have hGi : ¬ (G = i) := by omega
  have hGim : ¬ (G = i + m) := by omega
  have hci : ¬ (c = i) := by omega
  have hbN : b ≠ w.heap.size := by omega
  have hdl : (cs.drop i).length = n - i := by rw [List.length_drop, hcl]
  have hcpB : ∀ (W : World), (∀ x, W.cell? x = (W1.setCells w.heap.size i vs).cell? x) → (∀ x, W.frozen? x = (W1.setCells w.heap.size i vs).frozen? x) → ∀ ty dc sc, (Builtin.copy_ #[115, 115] ty #[.slice (some ⟨w.heap.size, i + m, none⟩) (n + m - (i + m)) dc, .slice (some ⟨b, off + i, none⟩) (n - i) sc]).run Try.prog W = .ok (goInt (cs.drop i).length) (W.setCells w.heap.size (i + m) (cs.drop i)) := fun W hWc hWf ty dc sc =>
    run_copy_cells W _ _ ty 58 w.heap.size (i + m) (n + m - (i + m)) dc ⟨b, off + i, none⟩ (n - i) sc (cs.drop i) Try.underlying115 hsz (by rw [hdl]; simp only [Nat.min_def]; split <;> omega)
      (fun j v hj => by
        rw [Addr.add_lit, hWc, World.cell?_setCells_out _ _ _ _ _ (fun h _ => absurd h hbN), Nat.add_assoc]
        exact hOb _ v (hcs (i + j) v (by rwa [List.getElem?_drop] at hj)))
      (fun j hj => by rw [hWc]; exact isSome_setCells _ _ _ _ (fun t ht => hN _ (by omega)) _ (hN _ (by omega)))
      (fun j hj => by rw [hWf, World.frozen?_setCells]; exact hNf _) (fun v hv => h1c v (List.mem_of_mem_drop hv))
  subst hW1
  have hE1 : ∀ x, ((w.alloc (.cells ROW 58)).drew).cell? x = (w.drew.alloc (.cells ROW 58)).cell? x := fun x => rfl
  have hE2 : ∀ x, ((w.alloc (.cells ROW 58)).drew).frozen? x = (w.drew.alloc (.cells ROW 58)).frozen? x := fun x => rfl
  have hF1 : ∀ x, (((w.alloc (.cells ROW 58)).drew.setCells w.heap.size i vs).drew).cell? x = ((w.drew.alloc (.cells ROW 58)).setCells w.heap.size i vs).cell? x := fun x => rfl
  have hF2 : ∀ x, (((w.alloc (.cells ROW 58)).drew.setCells w.heap.size i vs).drew).frozen? x = ((w.drew.alloc (.cells ROW 58)).setCells w.heap.size i vs).frozen? x := fun x => rfl
  have hw1 : IntKind.i64.wrap ((i : Int) + (m : Int)) = (i : Int) + (m : Int) := by rw [IntKind.wrap_i64]; omega
  have hb1 : (0 : Int) ≤ (i : Int) + (m : Int) := by omega
  have hin : i ≤ n := by omega
  have htn : ((i : Int) + (m : Int)).toNat = i + m := by omega
  have hb3 : (i : Int) ≤ (n : Int) := by omega
  clear hkk hik hold hROW hG hRl
  go_enter Try.func130, Try.ntmps130
  go_wp2_with (first
    | (at_builtin; refine Lib.wpList_append_run _ rfl _ _ _ _ rfl _ _ rfl rfl _ _ (hrz _) ?_)
    | (at_builtin; refine wpList_copy_runI _ rfl _ _ 115 115 rfl _ _ rfl rfl (hcpA _ hE1 hE2 _ _) ?_)
    | (at_builtin; refine wpList_copy_runI _ rfl _ _ 115 115 rfl _ _ rfl rfl (hcpB _ (fun _ => rfl) (fun _ => rfl) _ _ _) ?_))
  go_region_law_o (refine step_copy_runI rfl _ _ 115 115 rfl (.slice (some ⟨w.heap.size, i + m, none⟩) (n + m - (i + m)) (G - (i + m))) (.slice (some ⟨b, off + i, none⟩) (n - i) (c - i)) (by simp [Act.eval, Act.put]) (by simp [Act.eval, Act.put]) (hcpB _ hF1 hF2 3 (G - (i + m)) (c - i)) ?_)
  go_wp2
  go_ret
  exact ⟨rfl, rfl⟩
end Go.Proofs.Ytjhgknagmiekeaa.T
set_option linter.unusedVariables false
set_option linter.unusedSimpArgs false
namespace Go.Proofs.Ytjhgknagmiekeaa.T
open Go.RowKit Go.Lib Go.Proofs Go.Proofs.YtjhgknagmiekeaaW.PrintWords
def putL (cur : Array Value) : Nat → List Value → Array Value
  | _, [] => cur
  | o, v :: r => putL (cur.setIfInBounds o v) (o + 1) r
theorem putL_size : ∀ (vs : List Value) (cur : Array Value) (o : Nat), (putL cur o vs).size = cur.size
  | [], _, _ => rfl
  | v :: r, cur, o => by unfold putL; rw [putL_size r]; simp
theorem putL_at : ∀ (vs : List Value) (cur : Array Value) (o j : Nat), o + vs.length ≤ cur.size → (putL cur o vs)[j]? = if o ≤ j ∧ j < o + vs.length then vs[j - o]? else cur[j]?
  | [], cur, o, j, _ => by unfold putL; simp; omega
  | v :: r, cur, o, j, h => by
    unfold putL
    simp only [List.length_cons] at h ⊢
    rw [putL_at r (cur.setIfInBounds o v) (o + 1) j (by simp; omega)]
    by_cases e : j = o
    · subst e
      rw [if_neg (by omega), if_pos (by omega), Array.getElem?_setIfInBounds_self_of_lt (by omega), Nat.sub_self]
      rfl
    · by_cases h1 : o + 1 ≤ j ∧ j < o + 1 + r.length
      · rw [if_pos h1, if_pos (by omega)]
        have : j - o = (j - (o + 1)) + 1 := by omega
        rw [this, List.getElem?_cons_succ]
      · rw [if_neg h1, if_neg (by omega), Array.getElem?_setIfInBounds_ne (by omega)]
theorem heap_setCell (w : World) {g o : Nat} {cur : Array Value} {t : TypeId} {f : Nat × Nat} (v : Value) (h : w.heap[g]? = some (.cells cur t f)) : (w.setCell ⟨g, o, none⟩ v).heap[g]? = some (.cells (cur.setIfInBounds o v) t f) := by
  simp [World.setCell, Array.getElem?_modify, h]
theorem heap_setCells {g : Nat} {t : TypeId} {f : Nat × Nat} : ∀ (vs : List Value) (w : World) (cur : Array Value) (o : Nat), w.heap[g]? = some (.cells cur t f) → (w.setCells g o vs).heap[g]? = some (.cells (putL cur o vs) t f)
  | [], _, _, _, h => h
  | v :: r, w, cur, o, h => by
    rw [World.setCells, putL]
    exact heap_setCells r _ _ _ (heap_setCell w v h)
theorem grown_refl (w : World) (row : Option Nat) : w.grownBy w row := ⟨rfl, rfl, rfl, Nat.le_refl _, fun _ _ _ => rfl⟩
theorem grown_trans {a b c : World} {row row' : Option Nat} (h : a.grownBy b row) (k : b.grownBy c row') (hr : ∀ g, row' = some g → row = some g ∨ a.heap.size ≤ g) : a.grownBy c row :=
  ⟨k.os.trans h.os, k.tape.trans h.tape, k.output.trans h.output, Nat.le_trans h.size k.size, fun i hi hn => (k.block i (Nat.lt_of_lt_of_le hi h.size) (fun e => by rcases hr i e.symm with h1 | h1; exact hn h1.symm; omega)).trans (h.block i hi hn)⟩
theorem grown_set (w : World) (g o : Nat) (v : Value) : w.grownBy (w.setCell ⟨g, o, none⟩ v) (some g) :=
  ⟨rfl, rfl, rfl, by simp [World.setCell], fun k hk hn => Below.heap_setCell _ _ _ k (fun e => hn (by rw [e]))⟩
theorem grown_sets (g : Nat) : ∀ (vs : List Value) (w : World) (o : Nat), w.grownBy (w.setCells g o vs) (some g)
  | [], w, _ => grown_refl w _
  | v :: r, w, o => by
    rw [World.setCells]
    exact grown_trans (grown_set w g o v) (grown_sets g r _ _) (fun k e => .inl e)
theorem owns_of {w : World} {base g n cap : Nat} {cur : Array Value} {xs : List Value} (hb : base ≤ g) (h : w.heap[g]? = some (.cells cur 58 (0, 0))) (hn : n ≤ cap) (hm : cap ≤ maxLen) (hs : cur.size = cap) (hx : xs.length = n) (ht : ∀ j, j < n → cur[j]? = xs[j]?) :
    w.ownsRow base 58 1 (.slice (some ⟨g, 0, none⟩) n cap) n xs := by
  refine ⟨by omega, .inr ⟨g, cap, cur, rfl, hb, h, hn, hm, by omega, ?_⟩⟩
  apply List.ext_getElem?
  intro j
  rw [Nat.mul_one, List.getElem?_take]
  split
  · rename_i hj
    rw [Array.getElem?_toList, ht j hj]
  · rw [List.getElem?_eq_none (by omega)]
theorem put_at (ps : List Value) (x : Value) (i : Nat) (hi : i ≤ ps.length) (j : Nat) : (ps.take i ++ x :: ps.drop i)[j]? = if j < i then ps[j]? else if j = i then some x else ps[j - 1]? := by
  have hl : (ps.take i).length = i := by rw [List.length_take]; omega
  by_cases h : j < i
  · rw [if_pos h, List.getElem?_append_left (by omega), List.getElem?_take, if_pos h]
  · rw [if_neg h, List.getElem?_append_right (by omega), hl]
    by_cases e : j = i
    · subst e; rw [if_pos rfl, Nat.sub_self]; rfl
    · rw [if_neg e]
      have e2 : j - i = (j - 1 - i) + 1 := by omega
      rw [e2, List.getElem?_cons_succ, List.getElem?_drop]
      congr 1
      omega
theorem insRow (w : World) (base : Nat) (kv : Value) (n : Nat) (ps : List Value) (i vb c1 : Nat) (x : Value) (hown : w.ownsRow base 58 1 kv n ps) (hi : i ≤ n) (hn : n ≤ 256) (hv : w.heap[vb]? = some (.cells #[x] 58 (0, 0))) (hx : x.oneCell' = true) (h1c : ∀ u ∈ ps, u.oneCell' = true) (hvb : kv.ownBlock ≠ some vb) (hb : base ≤ w.heap.size) :
    Calls Try.prog 130 #[kv, .int .i64 i, .slice (some ⟨vb, 0, none⟩) 1 c1] w fun e w' => ∃ v', e = .returned v' ∧ w'.ownsRow base 58 1 v' (n + 1) (ps.take i ++ x :: ps.drop i) ∧ w.grownBy w' kv.ownBlock ∧ (v'.ownBlock = kv.ownBlock ∨ v'.ownBlock = some w.heap.size) := by
  have hpl : ps.length = n := by simpa using hown.1
  have hnl : (ps.take i ++ x :: ps.drop i).length = n + 1 := by rw [List.length_append, List.length_take, List.length_cons, List.length_drop]; omega
  have hvs : ∀ j v, [x][j]? = some v → w.cell? ⟨vb, 0 + j, none⟩ = some v := fun j v h => by
    match j, h with
    | 0, h => simp at h; subst h; rw [Nat.zero_add, blk_cell hv]; rfl
  have h1v : ∀ v ∈ [x], v.oneCell' = true := fun v h => by rw [List.mem_singleton] at h; rw [h]; exact hx
  rcases hown.2 with ⟨rfl, rfl⟩ | ⟨g, cap, cur, rfl, hbg, hg, hnc, hcm, hcs, htake⟩
  · have h0 : i = 0 := by omega
    subst h0
    have hps : ps = [] := List.length_eq_zero_iff.1 hpl
    subst hps
    refine (ins_end_grow none 0 0 vb 0 1 c1 [] [x] w (by omega) (Nat.le_refl _) (by omega) (by omega) rfl rfl (fun _ => rfl) (fun a e => by cases e) hvs h1v).mono ?_
    rintro e w' ⟨rfl, rfl⟩
    have hG := grownCap_ge w (0 + 1) 0 58
    have hG2 := grownCap_le_maxLen w (0 + 1) 0 58 (by unfold maxLen; omega)
    refine ⟨_, rfl, owns_of hb (heap_alloc_new w.drew _) hG hG2 ?_ hnl ?_, ⟨rfl, rfl, rfl, by simp only [World.size_alloc]; exact Nat.le_succ _, fun k hk _ => heap_alloc_old w.drew _ hk⟩, .inr rfl⟩
    · rw [Array.size_append, size_zeroCells]
      show 1 + _ * 1 = _
      omega
    · intro j hj
      have : j = 0 := by omega
      subst this
      rw [Array.getElem?_append_left (by simp)]
      rfl
  · have hcell : ∀ j, w.cell? ⟨g, j, none⟩ = cur[j]? := fun j => blk_cell hg j
    have hsz : cur.size = cap := by omega
    have hpj : ∀ j v, ps[j]? = some v → cur[j]? = some v := fun j v h => by
      have hj : j < n := by have := (List.getElem?_eq_some_iff.1 h).1; omega
      rw [← htake, List.getElem?_take, if_pos (by omega), Array.getElem?_toList] at h
      exact h
    have hpn : ∀ j, j < n → cur[j]? = ps[j]? := fun j hj => by
      rw [List.getElem?_eq_getElem (by omega)]
      exact hpj j _ (List.getElem?_eq_getElem (by omega))
    by_cases hin : i = n
    · subst hin
      by_cases hroom : i + 1 ≤ cap
      · refine (ins_end_room g 0 i cap vb 0 1 c1 [x] w (by omega) hroom (by unfold maxLen at hcm; omega) rfl (fun j hj => ?_) (fun j _ => blk_frozen hg _) hvs h1v).mono ?_
        · rw [hcell, Array.getElem?_eq_getElem (by omega)]; rfl
        · rintro e w' ⟨rfl, rfl⟩
          refine ⟨_, rfl, owns_of hbg (heap_setCells [x] w cur (0 + i) hg) hroom hcm (by rw [putL_size]; exact hsz) hnl ?_, grown_sets g [x] w (0 + i), .inl rfl⟩
          intro j hj
          rw [putL_at _ _ _ _ (by simp; omega), put_at ps x i (by omega)]
          by_cases e : j < i
          · rw [if_neg (by omega), if_pos e, hpn j e]
          · have : j = i := by omega
            subst this
            rw [if_pos ⟨by omega, by simp⟩, if_neg e, if_pos rfl, Nat.zero_add, Nat.sub_self]
            rfl
      · refine (ins_end_grow (some ⟨g, 0, none⟩) i cap vb 0 1 c1 ps [x] w (by omega) hnc (by omega) (by omega) hpl rfl (fun e => by cases e) (fun a e j v h => ?_) hvs h1v).mono ?_
        · cases e
          rw [Addr.add_lit, Nat.zero_add, hcell]
          exact hpj j v h
        · rintro e w' ⟨rfl, rfl⟩
          have hG := grownCap_ge w (i + 1) cap 58
          have hG2 := grownCap_le_maxLen w (i + 1) cap 58 (by unfold maxLen; omega)
          refine ⟨_, rfl, owns_of hb (heap_alloc_new w.drew _) hG hG2 ?_ hnl ?_, ⟨rfl, rfl, rfl, by simp only [World.size_alloc]; exact Nat.le_succ _, fun k hk _ => heap_alloc_old w.drew _ hk⟩, .inr rfl⟩
          · rw [Array.size_append, size_zeroCells, List.size_toArray, List.length_append]
            show _ + 1 + _ * 1 = _
            omega
          · intro j hj
            rw [Array.getElem?_append_left (by simp; omega), List.getElem?_toArray, put_at ps x i (by omega)]
            by_cases e : j < i
            · rw [if_pos e, List.getElem?_append_left (by omega)]
            · have : j = i := by omega
              subst this
              rw [if_neg e, if_pos rfl, List.getElem?_append_right (by omega), hpl, Nat.sub_self]
              rfl
    · have hlt : i < n := by omega
      have hdl : (ps.drop i).length = n - i := by rw [List.length_drop]; omega
      by_cases hroom : n + 1 ≤ cap
      · have hne : vb ≠ g := fun e => hvb (by rw [e]; rfl)
        refine (ins_shift g 0 n cap i vb 0 1 c1 ps [x] w hlt (by omega) hroom (by unfold maxLen at hcm; omega) hne hpl rfl (fun j v h => by rw [Nat.zero_add, hcell]; exact hpj j v h) (fun j hj => ?_) (fun j _ => blk_frozen hg _) hvs h1c h1v 58 58 1 cap ?_ ?_ (by omega) (blk_frozen hv _) (blk_frozen hv _)).mono ?_
        · rw [Nat.zero_add, hcell, Array.getElem?_eq_getElem (by omega)]; rfl
        · unfold World.shape?; rw [hv]; rfl
        · unfold World.shape?; rw [hg]; rw [← hsz]
        · rintro e w' ⟨rfl, rfl⟩
          refine ⟨_, rfl, owns_of hbg (heap_setCells [x] _ _ (0 + i) (heap_setCells (ps.drop i) w.drew cur (0 + (i + 1)) hg)) hroom hcm (by rw [putL_size, putL_size]; exact hsz) hnl ?_,
            grown_trans (b := w.drew.setCells g (0 + (i + 1)) (ps.drop i)) (grown_trans (b := w.drew) ⟨rfl, rfl, rfl, Nat.le_refl _, fun _ _ _ => rfl⟩ (grown_sets g _ w.drew _) (fun k e => .inl e)) (grown_sets g [x] _ _) (fun k e => .inl e), .inl rfl⟩
          intro j hj
          rw [putL_at _ _ _ _ (by rw [putL_size]; simp; omega), putL_at _ _ _ _ (by rw [hdl]; omega), put_at ps x i (by omega), hdl]
          simp only [List.length_singleton, Nat.zero_add]
          by_cases e : j < i
          · rw [if_neg (by omega), if_neg (by omega), if_pos e, hpn j (by omega)]
          · by_cases e2 : j = i
            · subst e2
              rw [if_pos (by omega), if_neg e, if_pos rfl]
              simp
            · rw [if_neg (by omega), if_pos (by omega), if_neg e, if_neg e2, List.getElem?_drop]
              congr 1
              omega
      · refine (ins_grow g 0 n cap i vb 0 1 c1 ps [x] w hlt (by omega) hnc (by omega) (by omega) hpl rfl (fun j v h => by rw [Nat.zero_add, hcell]; exact hpj j v h) hvs h1c h1v).mono ?_
        rintro e w' ⟨rfl, rfl⟩
        have hG := grownCap_ge w (n + 1) cap 58
        have hG2 := grownCap_le_maxLen w (n + 1) cap 58 (by unfold maxLen; omega)
        have hrl : ((ps.take i).toArray ++ Builtin.zeroCells (Value.pointer none).cells (n + 1 - i) ++ Builtin.zeroCells (Value.pointer none).cells (grownCap w (n + 1) cap 58 - (n + 1))).size = grownCap w (n + 1) cap 58 := by
          rw [Array.size_append, Array.size_append, size_zeroCells, size_zeroCells, List.size_toArray, List.length_take]
          show min i ps.length + _ * 1 + _ * 1 = _
          omega
        refine ⟨_, rfl, owns_of hb (heap_setCells (ps.drop i) _ _ (i + 1) (heap_setCells [x] ((w.alloc _).drew) _ i (heap_alloc_new w _))) hG hG2 (by rw [putL_size, putL_size]; exact hrl) hnl ?_, ?_, .inr rfl⟩
        · intro j hj
          rw [putL_at _ _ _ _ (by rw [putL_size, hrl, hdl]; omega), putL_at _ _ _ _ (by rw [hrl]; simp; omega), put_at ps x i (by omega), hdl]
          simp only [List.length_singleton]
          by_cases e : j < i
          · rw [if_neg (by omega), if_neg (by omega), if_pos e]
            have ht : (ps.take i).length = i := by rw [List.length_take]; omega
            rw [Array.append_assoc, Array.getElem?_append_left (by rw [List.size_toArray]; omega), List.getElem?_toArray, List.getElem?_take, if_pos e]
          · by_cases e2 : j = i
            · subst e2
              rw [if_neg (by omega), if_pos (by omega), if_neg e, if_pos rfl]
              simp
            · rw [if_pos (by omega), if_neg e, if_neg e2, List.getElem?_drop]
              congr 1
              omega
        · have h1 : w.grownBy (w.alloc (.cells ((ps.take i).toArray ++ Builtin.zeroCells (Value.pointer none).cells (n + 1 - i) ++ Builtin.zeroCells (Value.pointer none).cells (grownCap w (n + 1) cap 58 - (n + 1))) 58)) (some g) := World.grownBy_alloc _ _ _
          have h2 := grown_sets w.heap.size [x] (w.alloc (.cells ((ps.take i).toArray ++ Builtin.zeroCells (Value.pointer none).cells (n + 1 - i) ++ Builtin.zeroCells (Value.pointer none).cells (grownCap w (n + 1) cap 58 - (n + 1))) 58)).drew i
          have h3 := grown_trans h1 ⟨h2.os, h2.tape, h2.output, h2.size, h2.block⟩ (fun k e => .inr (by cases e; exact Nat.le_refl _))
          have h4 := grown_sets w.heap.size (ps.drop i) ((w.alloc (.cells ((ps.take i).toArray ++ Builtin.zeroCells (Value.pointer none).cells (n + 1 - i) ++ Builtin.zeroCells (Value.pointer none).cells (grownCap w (n + 1) cap 58 - (n + 1))) 58)).drew.setCells w.heap.size i [x]).drew (i + 1)
          exact grown_trans h3 ⟨h4.os, h4.tape, h4.output, h4.size, h4.block⟩ (fun k e => .inr (by cases e; exact Nat.le_refl _))
end Go.Proofs.Ytjhgknagmiekeaa.T
set_option linter.unusedVariables false
set_option linter.unusedSimpArgs false
namespace Go.Proofs.Ytjhgknagmiekeaa.T
open Go.RowKit Go.Lib Go.Proofs Go.Proofs.YtjhgknagmiekeaaW.PrintWords
def insAt {α : Type} (i : Nat) (x : α) (l : List α) : List α := l.take i ++ x :: l.drop i
abbrev Sup := Nat → Nat × Value
def fbAt (s : ByteArray) (i : Nat) : Nat := (s.data.toList.getD i 0).toNat
def lowN (k : Nd) (p b : Nat) : Nd := .mk b (k.label.extract p k.label.size) k.leaf k.kids k.mark
def tipN (rest : ByteArray) (l : Lf) (s : Nat × Value) : Nd := .mk s.1 rest (some l) [] s.2
def splitN (k : Nd) (p : Nat) (rest : ByteArray) (l : Lf) (ns : Sup) : Nd :=
  if p = rest.size then .mk (ns 1).1 (rest.extract 0 p) (some l) [lowN k p (ns 2).1] (ns 1).2
  else .mk (ns 1).1 (rest.extract 0 p) none (insAt (pos [fb (lowN k p (ns 2).1)] (fbAt rest p)) (tipN (rest.extract p rest.size) l (ns 3)) [lowN k p (ns 2).1]) (ns 1).2
def insN (n : Nd) (rest : ByteArray) (l : Lf) (ns : Sup) : Nd :=
  if h0 : rest.size = 0 then .mk (ns 0).1 n.label (some l) n.kids (ns 0).2
  else match kidN n rest with
    | none => .mk (ns 0).1 n.label n.leaf (insAt (pos (n.kids.map fb) (fbS rest)) (tipN rest l (ns 1)) n.kids) (ns 0).2
    | some k =>
      if h : 0 < comB k.label rest ∧ comB k.label rest = k.label.size then
        .mk (ns 0).1 n.label n.leaf (n.kids.set (pos (n.kids.map fb) (fbS rest)) (insN k (rest.extract (comB k.label rest) rest.size) l (fun j => ns (j + 1)))) (ns 0).2
      else .mk (ns 0).1 n.label n.leaf (n.kids.set (pos (n.kids.map fb) (fbS rest)) (splitN k (comB k.label rest) rest l ns)) (ns 0).2
termination_by rest.size
decreasing_by
  simp only [ByteArray.size_extract]
  omega
def findN (n : Nd) (rest : ByteArray) : Option Lf :=
  if h0 : rest.size = 0 then n.leaf
  else match kidN n rest with
    | none => none
    | some k => if h : 0 < comB k.label rest ∧ comB k.label rest = k.label.size then findN k (rest.extract (comB k.label rest) rest.size) else none
termination_by rest.size
decreasing_by
  simp only [ByteArray.size_extract]
  omega
def NewMark (B : Nat) (w : World) (m : Value) : Prop := ∃ c, m = ptr (c + 1) ∧ B ≤ c ∧ w.heap[c]? = some (.chan 0 #[] false 0 0 false) ∧ w.heap[c + 1]? = some (watchObj c)
structure SupOk (B : Nat) (w : World) (ns : Sup) : Prop where
  new : ∀ j, B ≤ (ns j).1 ∧ (ns j).1 < w.heap.size
  mark : ∀ j, NewMark B w (ns j).2
theorem NewMark.keep {B : Nat} {w w' : World} {m : Value} (h : NewMark B w m) (k : Kept w w') : NewMark B w' m := by
  obtain ⟨c, h1, h2, h3, h4⟩ := h
  exact ⟨c, h1, h2, k.at h3, k.at h4⟩
theorem NewMark.mono {B B' : Nat} {w : World} {m : Value} (h : NewMark B w m) (hb : B' ≤ B) : NewMark B' w m := by
  obtain ⟨c, h1, h2, h3, h4⟩ := h
  exact ⟨c, h1, by omega, h3, h4⟩
theorem row_of_owns {w : World} {base n : Nat} {v : Value} {ps : List Value} (h : w.ownsRow base 58 1 v n ps) : Row w v ps := by
  have hl : ps.length = n := by simpa using h.1
  rcases h.2 with ⟨rfl, h0⟩ | ⟨g, cap, cur, rfl, hb, hg, hnc, hcm, hcs, ht⟩
  · exact .inl ⟨rfl, List.length_eq_zero_iff.1 (by omega)⟩
  · refine .inr ⟨⟨g, 0, none⟩, cap, by rw [hl], fun i hi => ?_⟩
    refine ⟨?_, cur, _, hg⟩
    rw [Addr.add_lit, Nat.zero_add, blk_cell hg]
    have e := List.getElem?_take_of_lt (l := cur.toList) (show i < n * 1 by omega)
    rw [ht, List.getElem?_eq_getElem hi, Array.getElem?_toList] at e
    exact e.symm
theorem ptrs_insAt (i : Nat) (x : Nd) (ks : List Nd) : ptrs (insAt i x ks) = (ptrs ks).take i ++ ptr x.b :: (ptrs ks).drop i := by simp [ptrs, insAt]
theorem ptrs_set (i : Nat) (x : Nd) (ks : List Nd) : ptrs (ks.set i x) = (ptrs ks).set i (ptr x.b) := by simp [ptrs, List.map_set]
theorem NdsAt.of {w : World} : ∀ {ks : List Nd}, (∀ k ∈ ks, NdAt w k) → NdsAt w ks
  | [], _ => by unfold NdsAt; trivial
  | n :: r, h => by
    unfold NdsAt
    exact ⟨h n (by simp), NdsAt.of (fun k hk => h k (by simp [hk]))⟩
theorem NdsAt.mem {w : World} {ks : List Nd} (h : NdsAt w ks) (k : Nd) (hk : k ∈ ks) : NdAt w k := by
  obtain ⟨i, hi, e⟩ := List.getElem_of_mem hk
  rw [← e]
  exact h.get i hi
theorem NdsAt.insAt {w : World} {ks : List Nd} (h : NdsAt w ks) (i : Nat) (x : Nd) (hx : NdAt w x) : NdsAt w (insAt i x ks) := NdsAt.of (fun k hk => by
  rcases List.mem_append.1 hk with e | e
  · exact h.mem k (List.mem_of_mem_take e)
  · rcases List.mem_cons.1 e with e | e
    · rw [e]; exact hx
    · exact h.mem k (List.mem_of_mem_drop e))
theorem NdsAt.set {w : World} {ks : List Nd} (h : NdsAt w ks) (i : Nat) (x : Nd) (hx : NdAt w x) : NdsAt w (ks.set i x) := NdsAt.of (fun k hk => by
  rcases List.mem_or_eq_of_mem_set hk with e | e
  · exact h.mem k e
  · rw [e]; exact hx)
theorem NdAt.mk {w : World} {b : Nat} {label : ByteArray} {leaf : Option Lf} {kids : List Nd} {mark kv : Value} (hb : w.heap[b]? = some (.cells #[.string label, leafPtr leaf, kv, mark] 117 (0, 0))) (hr : Row w kv (ptrs kids)) (hl : LfAt w leaf) (hk : NdsAt w kids) (hm : ∃ mb, mark = ptr mb) : NdAt w (.mk b label leaf kids mark) := by
  unfold NdAt
  exact ⟨⟨kv, hb, hr⟩, hl, hk, hm⟩
end Go.Proofs.Ytjhgknagmiekeaa.T
set_option linter.unusedVariables false
set_option linter.unusedSimpArgs false
namespace Go.Proofs.Ytjhgknagmiekeaa.T
abbrev L (s : ByteArray) : List UInt8 := s.data.toList
theorem L_len (s : ByteArray) : (L s).length = s.size := by rw [Array.length_toList]; rfl
theorem L_extract (s : ByteArray) (i j : Nat) : L (s.extract i j) = ((L s).take j).drop i := by
  simp [L, ByteArray.data_extract, List.drop_take]
theorem L_inj {a b : ByteArray} (h : L a = L b) : a = b := ByteArray.ext (Array.toList_inj.1 h)
theorem L_tail (s : ByteArray) (p : Nat) : L (s.extract p s.size) = (L s).drop p := by
  rw [L_extract, List.take_of_length_le (by rw [L_len]; exact Nat.le_refl _)]
theorem L_head (s : ByteArray) (p : Nat) : L (s.extract 0 p) = (L s).take p := by rw [L_extract, List.drop_zero]
def kidT (ks : List Nd) (x : Nat) : Option Nd := ks.find? (fun k => fb k == x)
def hd (r : List UInt8) : Nat := (r.getD 0 0).toNat
theorem kidN_eq (n : Nd) (ho : Ok n) (rest : ByteArray) : kidN n rest = kidT n.kids (hd (L rest)) := by
  have hs := ho.parts.1
  have key : ∀ (ks : List Nd) (x : Nat), (ks.map fb).Pairwise (· < ·) → (if hit (ks.map fb) x then ks[pos (ks.map fb) x]? else none) = kidT ks x := by
    intro ks
    induction ks with
    | nil => intro x _; simp [kidT, hit, pos]
    | cons k ks ih =>
      intro x hp
      have hp2 := List.pairwise_cons.1 hp
      unfold kidT hit
      simp only [List.map_cons, pos]
      by_cases h1 : fb k < x
      · rw [if_pos h1]
        have h2 : (fb k == x) = false := by simp; omega
        rw [List.find?_cons_of_neg (by simp [h2])]
        have h3 := ih x hp2.2
        unfold hit kidT at h3
        simpa using h3
      · rw [if_neg h1]
        by_cases h2 : fb k = x
        · rw [List.find?_cons_of_pos (by simp [h2])]
          simp [h2]
        · rw [List.find?_cons_of_neg (by simp [h2])]
          have h3 : ks.find? (fun k => fb k == x) = none := by
            rw [List.find?_eq_none]
            intro y hy
            have := hp2.1 (fb y) (List.mem_map_of_mem hy)
            simp
            omega
          rw [h3]
          simp [h2]
  exact key n.kids (fbS rest) hs
def findT (n : Nd) (r : List UInt8) : Option Lf :=
  if h0 : r = [] then n.leaf
  else match kidT n.kids (hd r) with
    | none => none
    | some k => if h : 0 < k.label.size ∧ L k.label <+: r then findT k (r.drop k.label.size) else none
termination_by r.length
decreasing_by
  have : 0 < r.length := by cases r with | nil => exact absurd rfl h0 | cons a b => simp
  rw [List.length_drop]
  omega
theorem com_prefix : ∀ (a b : List UInt8), com a b = a.length ↔ a <+: b
  | [], b => by simp [com]
  | x :: xs, [] => by simp [com]
  | x :: xs, y :: ys => by
    unfold com
    by_cases h : x = y
    · subst h
      rw [if_pos rfl, List.cons_prefix_cons, List.length_cons]
      have := com_prefix xs ys
      constructor
      · intro e; exact ⟨rfl, this.1 (by omega)⟩
      · intro e; have := this.2 e.2; omega
    · rw [if_neg h, List.cons_prefix_cons]
      constructor
      · intro e; simp at e
      · intro e; exact absurd e.1 h
theorem com_take : ∀ (a b : List UInt8), a.take (com a b) = b.take (com a b)
  | [], b => by simp [com]
  | x :: xs, [] => by simp [com]
  | x :: xs, y :: ys => by
    unfold com
    by_cases h : x = y
    · subst h; rw [if_pos rfl, List.take_succ_cons, List.take_succ_cons, com_take xs ys]
    · rw [if_neg h]; simp
theorem com_stop : ∀ (a b : List UInt8), com a b < a.length → com a b < b.length → a.getD (com a b) 0 ≠ b.getD (com a b) 0
  | [], b, h, _ => by simp [com] at h
  | x :: xs, [], _, h => by simp [com] at h
  | x :: xs, y :: ys, h1, h2 => by
    unfold com at h1 h2 ⊢
    by_cases h : x = y
    · rw [if_pos h] at h1 h2 ⊢
      simp only [List.length_cons] at h1 h2
      have := com_stop xs ys (by omega) (by omega)
      simpa using this
    · rw [if_neg h]
      simpa using h
theorem comB_prefix (a b : ByteArray) : comB a b = a.size ↔ L a <+: L b := by
  rw [← com_prefix, L_len]
  exact Iff.rfl
end Go.Proofs.Ytjhgknagmiekeaa.T
set_option linter.unusedVariables false
set_option linter.unusedSimpArgs false
namespace Go.Proofs.Ytjhgknagmiekeaa.T
open Go.RowKit Go.Lib Go.Proofs Go.Proofs.YtjhgknagmiekeaaW.PrintWords
theorem empty_of (rest : ByteArray) (h0 : rest.size = 0) : rest = ⟨#[]⟩ := by
  apply ByteArray.ext
  apply Array.eq_empty_of_size_eq_zero
  exact h0
theorem kept_set {w w' : World} {B : Nat} (hb : Below B w w') (g : Nat) (hg : B ≤ g) (o : Nat) (v : Value) : Below B w (w'.setCell ⟨g, o, none⟩ v) :=
  hb.trans ⟨rfl, rfl, rfl, by simp [World.setCell], fun k hk => Below.heap_setCell _ _ _ k (by show k ≠ g; omega)⟩
theorem owns_set {w : World} {base n g : Nat} {v : Value} {ps : List Value} (h : w.ownsRow base 58 1 v n ps) (hg : v.ownBlock ≠ some g) (o : Nat) (x : Value) : (w.setCell ⟨g, o, none⟩ x).ownsRow base 58 1 v n ps :=
  h.kept (grown_set w g o x) (.inr hg)
def Ag (B0 B : Nat) (w1 w2 : World) : Prop := ∀ x, x < w1.heap.size → x < B0 ∨ B ≤ x → w2.heap[x]? = w1.heap[x]?
theorem Ag.refl (B0 B : Nat) (w : World) : Ag B0 B w w := fun _ _ _ => rfl
theorem Ag.at {B0 B : Nat} {w1 w2 : World} (h : Ag B0 B w1 w2) {x : Nat} {o : Obj} (hx : w1.heap[x]? = some o) (hb : x < B0 ∨ B ≤ x) : w2.heap[x]? = some o := (h x (Array.getElem?_eq_some_iff.1 hx).1 hb).trans hx
theorem Ag.owns {B0 B : Nat} {w1 w2 : World} (h : Ag B0 B w1 w2) {n : Nat} {v : Value} {ps : List Value} (ho : w1.ownsRow B 58 1 v n ps) : w2.ownsRow B 58 1 v n ps := by
  refine ⟨ho.1, ?_⟩
  rcases ho.2 with h0 | ⟨g, cap, cur, rfl, hb, hg, rest⟩
  · exact .inl h0
  · exact .inr ⟨g, cap, cur, rfl, hb, h.at hg (.inr hb), rest⟩
theorem Ag.kept {B : Nat} {w0 w1 w2 : World} (h : Ag w0.heap.size B w1 w2) (hs : w0.heap.size ≤ w1.heap.size) (hk : Kept w0 w1) : Kept w0 w2 := fun x hx => (h x (by omega) (.inl hx)).trans (hk x hx)
def Rob (B0 B : Nat) (w : World) (t : Nd) : Prop := ∀ w2, Ag B0 B w w2 → NdAt w2 t
theorem Kept.trans {a b c : World} (h : Kept a b) (k : Kept b c) (hs : a.heap.size ≤ b.heap.size) : Kept a c := fun x hx => (k x (by omega)).trans (h x hx)
set_option maxHeartbeats 4000000 in
set_option maxRecDepth 100000 in
theorem ins_empty (w0 w : World) (hk0 : Kept w0 w) (hs0 : w0.heap.size ≤ w.heap.size) (n : Nd) (rest : ByteArray) (l : Lf) (hn0 : NdAt w0 n) (ho : Ok n) (hl : LfAt w0 (some l)) (h0 : rest.size = 0) :
    Calls Try.prog 98 #[ptr n.b, .string rest, ptr l.b] w fun e w' => ∃ ns, e = .returned (.tuple #[ptr (ns 0).1, leafPtr (findN n rest)]) ∧ Rob w0.heap.size w.heap.size w' (insN n rest l ns) ∧ SupOk w.heap.size w' ns ∧ Below w.heap.size w w' := by
  have hn := NdAt.keep hk0 n hn0
  have q1 := Aside0.mk (fresh w n hn ho.few)
  obtain ⟨kv0, hb0, _, _, _⟩ := hn.parts
  obtain ⟨_, _, _, hlf, hks⟩ := hn0.parts
  have c1 : w.cell? ⟨n.b, 1, none⟩ = some (leafPtr n.leaf) := by rw [blk_cell hb0]; rfl
  have hnb : n.b < w.heap.size := (Array.getElem?_eq_some_iff.1 hb0).1
  have HN := Aside0.mk (And.intro hlf (And.intro hks (And.intro hl hnb)))
  have e0 := empty_of rest h0
  have ei : ∀ ns, insN n rest l ns = .mk (ns 0).1 n.label (some l) n.kids (ns 0).2 := fun ns => by rw [insN, dif_pos h0]
  have ef : findN n rest = n.leaf := by rw [findN, dif_pos h0]
  rw [ef]
  have HE := Aside0.mk ei
  subst e0
  have HK0 := Aside0.mk (And.intro hk0 hs0)
  clear hn hn0 ho hl h0 ei ef hb0 hlf hks hk0 hs0
  unfold ptr
  go_enter Try.func98, Try.ntmps98
  go_wp2_with (go_at_call 124; refine q1.out.mono ?_)
  rintro e w1 ⟨b, kv, m, rfl, hf⟩
  have HF := Aside0.mk hf
  have c1' := (Kept.of hf.kept).cell c1
  have k1 : w1.cell? ⟨b, 1, none⟩ = some (leafPtr n.leaf) := by rw [blk_cell hf.blk]; rfl
  have f1 : w1.frozen? ⟨b, 1, none⟩ = false := blk_frozen hf.blk 1
  have hbn : ¬ n.b = b := by have := hf.new; omega
  clear hf q1
  unfold ptr
  go_wp2_with fail
  go_region
  go_wp2_with fail
  go_ret2
  have hf := HF.out
  obtain ⟨hlf, hks, hl, hnb⟩ := HN.out
  have KB : Below w.heap.size w ((w1.setCell ⟨b, 1, none⟩ (.pointer (some ⟨l.b, 0, none⟩))).drew) := by
    have h := kept_set hf.kept b hf.new 1 (.pointer (some ⟨l.b, 0, none⟩))
    exact ⟨h.os, h.tape, h.output, h.size, h.block⟩
  have hKK := Kept.of KB
  obtain ⟨c, hm, hc1, hc2, hc3⟩ := hf.mark
  have hcb : ∀ o t f x, w1.heap[x]? = some o → w1.heap[b]? = some (.cells t 117 f) → (∀ t f, o ≠ .cells t 117 f) → x ≠ b := fun o t f x h1 h2 h3 e => by
    rw [e, h2] at h1
    exact h3 _ _ (Option.some.inj h1).symm
  refine ⟨fun _ => (b, m), rfl, ?_, ⟨fun _ => ⟨hf.new, ?_⟩, fun _ => ⟨c, hm, hc1, ?_, ?_⟩⟩, KB⟩
  · intro w6 hag
    rw [HE.out]
    have K6 : Kept w0 w6 := hag.kept (by have := HK0.out.2; have := KB.size; omega) (HK0.out.1.trans hKK HK0.out.2)
    refine NdAt.mk (kv := kv) ?_ ?_ (hl.keep K6) (NdsAt.keep K6 _ hks) ⟨_, hm⟩
    · have := heap_setCell w1 (g := b) (o := 1) (.pointer (some ⟨l.b, 0, none⟩)) hf.blk
      exact hag.at this (.inr hf.new)
    · have := owns_set hf.row hf.off 1 (.pointer (some ⟨l.b, 0, none⟩))
      exact row_of_owns (hag.owns this)
  · have := (Array.getElem?_eq_some_iff.1 hf.blk).1
    simpa [World.setCell] using this
  · have h := (Below.heap_setCell w1 ⟨b, 1, none⟩ (.pointer (some ⟨l.b, 0, none⟩)) c (hcb _ _ _ c hc2 hf.blk (fun t f e => by cases e))).trans hc2
    exact h
  · have h := (Below.heap_setCell w1 ⟨b, 1, none⟩ (.pointer (some ⟨l.b, 0, none⟩)) (c + 1) (hcb _ _ _ (c + 1) hc3 hf.blk (fun t f e => by unfold watchObj at e; cases e))).trans hc3
    exact h
end Go.Proofs.Ytjhgknagmiekeaa.T
set_option linter.unusedVariables false
set_option linter.unusedSimpArgs false
namespace Go.Proofs.Ytjhgknagmiekeaa.T
open Go.RowKit Go.Lib Go.Proofs Go.Proofs.YtjhgknagmiekeaaW.PrintWords
theorem kidF (w w1 : World) (n : Nd) (b : Nat) (kv m : Value) (hn : NdAt w n) (ho : Ok n) (hf : FreshAt w w1 n b kv m) (x : Nat) (hx : x < 256) :
  Calls Try.prog 125 #[ptr b, .int .u8 x] w1 fun e w' => e = .returned (.tuple #[.int .i64 (pos (n.kids.map fb) x), .bool (hit (n.kids.map fb) x)]) ∧ w' = w1 := by
 obtain ⟨kv0, hb0, _, hlf, hks⟩ := hn.parts
 obtain ⟨hs, hp, hoks⟩ := ho.parts
 exact kidOf w1 b n.label _ kv _ n.kids x hf.blk (row_of_owns hf.row) (NdsAt.keep (Kept.of hf.kept) _ hks) hs hp hx (by have := ho.few; omega)
theorem owns_ne {w : World} {base n x : Nat} {v : Value} {ps : List Value} {o : Obj} (h : w.ownsRow base 58 1 v n ps) (hx : w.heap[x]? = some o) (ho : ∀ cur, o ≠ .cells cur 58 (0, 0)) : v.ownBlock ≠ some x := by
 rcases h.2 with ⟨rfl, _⟩ | ⟨g, cap, cur, rfl, _, hg, _⟩
 ·simp [Value.ownBlock]
 ·intro e
  simp [Value.ownBlock] at e
  subst e
  rw [hx] at hg
  exact ho cur (Option.some.inj hg)
theorem grown_at {w w' : World} {row : Option Nat} {x : Nat} {o : Obj} (h : w.grownBy w' row) (hx : w.heap[x]? = some o) (hr : row ≠ some x) : w'.heap[x]? = some o :=
 (h.block x (Array.getElem?_eq_some_iff.1 hx).1 (fun e => hr e.symm)).trans hx
theorem alloc_at {w : World} {x : Nat} {o o' : Obj} (hx : w.heap[x]? = some o) : (w.alloc o').heap[x]? = some o := (heap_alloc_old w o' (Array.getElem?_eq_some_iff.1 hx).1).trans hx
theorem set_at {w : World} {x g i : Nat} {o : Obj} {v : Value} (hx : w.heap[x]? = some o) (hne : x ≠ g) : (w.setCell ⟨g, i, none⟩ v).heap[x]? = some o := (Below.heap_setCell w ⟨g, i, none⟩ v x hne).trans hx
abbrev tipW (w : World) (label : ByteArray) (lb : Nat) : World :=
 (((w.alloc (.chan 0 #[] false 0 0 false)).alloc (.cells #[.int .u32 0, .int .i32 0, .int .u32 0, .chan (some w.heap.size)] 154)).alloc (.cells #[.string label, .pointer (some ⟨lb, 0, none⟩), .slice none 0 0, .pointer (some ⟨w.heap.size + 1, 0, none⟩)] 117)).alloc (.cells #[.pointer (some ⟨w.heap.size + 1 + 1, 0, none⟩)] 58)
theorem tipW_facts (w : World) (label : ByteArray) (lb : Nat) : (tipW w label lb).heap.size = w.heap.size + 4 ∧ (tipW w label lb).heap[w.heap.size]? = some (.chan 0 #[] false 0 0 false) ∧ (tipW w label lb).heap[w.heap.size + 1]? = some (watchObj w.heap.size) ∧
  (tipW w label lb).heap[w.heap.size + 1 + 1]? = some (.cells #[.string label, .pointer (some ⟨lb, 0, none⟩), .slice none 0 0, .pointer (some ⟨w.heap.size + 1, 0, none⟩)] 117 (0, 0)) ∧ (tipW w label lb).heap[w.heap.size + 1 + 1 + 1]? = some (.cells #[.pointer (some ⟨w.heap.size + 1 + 1, 0, none⟩)] 58 (0, 0)) ∧ Below w.heap.size w (tipW w label lb) := by
 refine ⟨by simp only [tipW, World.size_alloc], ?_, ?_, ?_, ?_, ?_⟩
 ·exact alloc_at (alloc_at (alloc_at (heap_alloc_new w _)))
 ·refine alloc_at (alloc_at ?_)
  have := heap_alloc_new (w.alloc (.chan 0 #[] false 0 0 false)) (.cells #[.int .u32 0, .int .i32 0, .int .u32 0, .chan (some w.heap.size)] 154)
  rw [World.size_alloc] at this
  exact this
 ·refine alloc_at ?_
  have := heap_alloc_new ((w.alloc (.chan 0 #[] false 0 0 false)).alloc (.cells #[.int .u32 0, .int .i32 0, .int .u32 0, .chan (some w.heap.size)] 154)) (.cells #[.string label, .pointer (some ⟨lb, 0, none⟩), .slice none 0 0, .pointer (some ⟨w.heap.size + 1, 0, none⟩)] 117)
  rw [World.size_alloc, World.size_alloc] at this
  exact this
 ·have := heap_alloc_new (((w.alloc (.chan 0 #[] false 0 0 false)).alloc (.cells #[.int .u32 0, .int .i32 0, .int .u32 0, .chan (some w.heap.size)] 154)).alloc (.cells #[.string label, .pointer (some ⟨lb, 0, none⟩), .slice none 0 0, .pointer (some ⟨w.heap.size + 1, 0, none⟩)] 117)) (.cells #[.pointer (some ⟨w.heap.size + 1 + 1, 0, none⟩)] 58)
  rw [World.size_alloc, World.size_alloc, World.size_alloc] at this
  exact this
 ·exact ((((Below.refl _ w).alloc (Nat.le_refl _) _).alloc (by simp only [World.size_alloc]; omega) _).alloc (by simp only [World.size_alloc]; omega) _).alloc (by simp only [World.size_alloc]; omega) _
theorem putTip (w : World) (base : Nat) (kv : Value) (n : Nat) (ps : List Value) (i : Nat) (label : ByteArray) (lb : Nat) (hown : w.ownsRow base 58 1 kv n ps) (hi : i ≤ n) (hn : n ≤ 256) (h1c : ∀ u ∈ ps, u.oneCell' = true) (hb : base ≤ w.heap.size) :
  Calls Try.prog 130 #[kv, .int .i64 i, .slice (some ⟨w.heap.size + 1 + 1 + 1, 0, none⟩) 1 1] (tipW w label lb).drew fun e w' => ∃ v', e = .returned v' ∧ w'.ownsRow base 58 1 v' (n + 1) (ps.take i ++ ptr (w.heap.size + 1 + 1) :: ps.drop i) ∧ (tipW w label lb).grownBy w' kv.ownBlock ∧ (v'.ownBlock = kv.ownBlock ∨ v'.ownBlock = some (tipW w label lb).heap.size) := by
 obtain ⟨hs, t1, t2, t3, t4, hbel⟩ := tipW_facts w label lb
 have ho : (tipW w label lb).drew.ownsRow base 58 1 kv n ps := by
  have := (((hown.alloc (.chan 0 #[] false 0 0 false)).alloc (.cells #[.int .u32 0, .int .i32 0, .int .u32 0, .chan (some w.heap.size)] 154)).alloc (.cells #[.string label, .pointer (some ⟨lb, 0, none⟩), .slice none 0 0, .pointer (some ⟨w.heap.size + 1, 0, none⟩)] 117)).alloc (.cells #[.pointer (some ⟨w.heap.size + 1 + 1, 0, none⟩)] 58)
  exact this
 have hne : kv.ownBlock ≠ some (w.heap.size + 1 + 1 + 1) := fun e => by have := (hown.lt _ e).2; omega
 refine (insRow (tipW w label lb).drew base kv n ps i (w.heap.size + 1 + 1 + 1) 1 (ptr (w.heap.size + 1 + 1)) ho hi hn t4 rfl h1c hne (by show base ≤ (tipW w label lb).heap.size; omega)).mono ?_
 rintro e w' ⟨v', rfl, h1, h2, h3⟩
 exact ⟨v', rfl, h1, ⟨h2.os, h2.tape, h2.output, h2.size, h2.block⟩, h3⟩
def ns1 (a b : Nat × Value) : Sup := fun j => if j = 1 then b else a
theorem new_close (w0 w w2 w5 : World) (hk0 : Kept w0 w) (hs0 : w0.heap.size ≤ w.heap.size) (n : Nd) (rest : ByteArray) (l : Lf) (b : Nat) (kv m v' : Value) (i : Nat) (hn : NdAt w0 n) (hl : LfAt w0 (some l)) (hf : FreshAt w w2 n b kv m)
  (ho5 : w5.ownsRow w.heap.size 58 1 v' (n.kids.length + 1) ((ptrs n.kids).take i ++ ptr (w2.heap.size + 1 + 1) :: (ptrs n.kids).drop i)) (hg5 : (tipW w2 rest l.b).grownBy w5 kv.ownBlock) (hat5 : v'.ownBlock = kv.ownBlock ∨ v'.ownBlock = some (tipW w2 rest l.b).heap.size)
  (hb5 : w5.heap[b]? = some (.cells #[.string n.label, leafPtr n.leaf, kv, m] 117 (0, 0))) :
  Rob w0.heap.size w.heap.size (w5.setCell ⟨b, 2, none⟩ v') (.mk b n.label n.leaf (insAt i (tipN rest l (w2.heap.size + 1 + 1, ptr (w2.heap.size + 1))) n.kids) m) ∧ SupOk w.heap.size (w5.setCell ⟨b, 2, none⟩ v') (ns1 (b, m) (w2.heap.size + 1 + 1, ptr (w2.heap.size + 1))) ∧ Below w.heap.size w (w5.setCell ⟨b, 2, none⟩ v') := by
 obtain ⟨hs, t1, t2, t3, t4, hbel⟩ := tipW_facts w2 rest l.b
 obtain ⟨kv0, hb0, _, hlf, hks⟩ := hn.parts
 have hbs : b < w2.heap.size := (Array.getElem?_eq_some_iff.1 hf.blk).1
 have hkvlt := hf.row.lt
 have hne : ∀ x, w2.heap.size ≤ x → kv.ownBlock ≠ some x := fun x hx e => by have := (hkvlt x e).2; omega
 have B5 : Below w.heap.size w w5 := (hf.kept.trans ⟨hbel.os, hbel.tape, hbel.output, hbel.size, fun k hk => hbel.block k (by have := hf.kept.size; omega)⟩).trans (below_grown hg5 (by have := hf.kept.size; omega) (fun k hk => (hkvlt k hk).1))
 have B6 := kept_set B5 b hf.new 2 v'
 have K6 := Kept.of B6
 have hvb : v'.ownBlock ≠ some b := by
  rcases hat5 with e | e
  ·rw [e]; exact hf.off
  ·rw [e]; intro h; simp at h; omega
 have tip5 := set_at (v := v') (i := 2) (grown_at hg5 t3 (hne _ (by omega))) (show w2.heap.size + 1 + 1 ≠ b by omega)
 have hsz6 : (w5.setCell ⟨b, 2, none⟩ v').heap.size = w5.heap.size := by simp [World.setCell]
 have hsz5 := hg5.size
 obtain ⟨c, hm, hc1, hc2, hc3⟩ := hf.mark
 have c2 := set_at (v := v') (i := 2) (grown_at hg5 ((Kept.of hbel).at hc2) (owns_ne hf.row hc2 (fun cur e => by cases e))) (show c ≠ b from fun e => by rw [e, hf.blk] at hc2; cases hc2)
 have c3 := set_at (v := v') (i := 2) (grown_at hg5 ((Kept.of hbel).at hc3) (owns_ne hf.row hc3 (fun cur e => by unfold watchObj at e; cases e))) (show c + 1 ≠ b from fun e => by rw [e, hf.blk] at hc3; unfold watchObj at hc3; cases hc3)
 have d2 := set_at (v := v') (i := 2) (grown_at hg5 t1 (hne _ (Nat.le_refl _))) (show w2.heap.size ≠ b by omega)
 have d3 := set_at (v := v') (i := 2) (grown_at hg5 t2 (hne _ (by omega))) (show w2.heap.size + 1 ≠ b by omega)
 refine ⟨fun w7 hag => ?_, ⟨fun j => ?_, fun j => ?_⟩, B6⟩
 ·have K7 : Kept w0 w7 := hag.kept (by have := B6.size; omega) (hk0.trans K6 hs0)
  refine NdAt.mk (kv := v') ?_ ?_ (hlf.keep K7) ((NdsAt.keep K7 _ hks).insAt i _ ?_) ⟨_, hm⟩
  ·exact hag.at (heap_setCell w5 v' hb5) (.inr hf.new)
  ·rw [ptrs_insAt]
   exact row_of_owns (hag.owns (owns_set ho5 hvb 2 v'))
  ·exact NdAt.mk (kv := .slice none 0 0) (hag.at tip5 (.inr (by have := hf.kept.size; omega))) (.inl ⟨rfl, rfl⟩) (hl.keep K7) (by unfold NdsAt; trivial) ⟨_, rfl⟩
 ·unfold ns1
  have := hf.new
  have := hf.kept.size
  split
  ·rw [hsz6]; exact ⟨by show _ ≤ w2.heap.size + 1 + 1; omega, by show w2.heap.size + 1 + 1 < _; omega⟩
  ·rw [hsz6]; exact ⟨hf.new, by show b < _; omega⟩
 ·unfold ns1
  have := hf.kept.size
  split
  ·exact ⟨w2.heap.size, rfl, by omega, d2, d3⟩
  ·exact ⟨c, hm, hc1, c2, c3⟩
set_option maxHeartbeats 4000000 in
set_option maxRecDepth 100000 in
theorem ins_new (w0 w : World) (hk0 : Kept w0 w) (hs0 : w0.heap.size ≤ w.heap.size) (n : Nd) (rest : ByteArray) (l : Lf) (hn0 : NdAt w0 n) (ho : Ok n) (hl : LfAt w0 (some l)) (h0 : 0 < rest.size) (hk : kidN n rest = none) :
  Calls Try.prog 98 #[ptr n.b, .string rest, ptr l.b] w fun e w' => ∃ ns, e = .returned (.tuple #[ptr (ns 0).1, leafPtr (findN n rest)]) ∧ Rob w0.heap.size w.heap.size w' (insN n rest l ns) ∧ SupOk w.heap.size w' ns ∧ Below w.heap.size w w' := by
 have hn := NdAt.keep hk0 n hn0
 have q1 := Aside0.mk (fresh w n hn ho.few)
 have q2 := Aside0.mk (fun w1 b kv m hf => kidF w w1 n b kv m hn ho hf (fbS rest) (fbS_lt rest))
 have ex : ((fbS rest : Nat) : Int) = (rest[0].toNat : Int) := by unfold fbS; rw [← byte0 rest h0]
 have hh : hit (n.kids.map fb) (fbS rest) = false := by
  cases h : hit (n.kids.map fb) (fbS rest) with
  | false => rfl
  | true =>
   unfold kidN at hk
   rw [h, if_pos rfl] at hk
   have := hit_lt h
   rw [List.length_map] at this
   rw [List.getElem?_eq_getElem this] at hk
   cases hk
 rw [hh, ex] at q2
 have hfew := ho.few
 have hple : pos (n.kids.map fb) (fbS rest) ≤ n.kids.length := by have := pos_le (n.kids.map fb) (fbS rest); rwa [List.length_map] at this
 have ei : ∀ ns, insN n rest l ns = .mk (ns 0).1 n.label n.leaf (insAt (pos (n.kids.map fb) (fbS rest)) (tipN rest l (ns 1)) n.kids) (ns 0).2 := fun ns => by rw [insN, dif_neg (by omega)]; simp only [hk]
 have ef : findN n rest = none := by rw [findN, dif_neg (by omega)]; simp only [hk]
 rw [ef]
 have HE := Aside0.mk ei
 have HN := Aside0.mk (And.intro hn0 (And.intro hl (And.intro hfew hple)))
 have HK0 := Aside0.mk (And.intro hk0 hs0)
 have hne := full_of rest h0
 obtain ⟨i, hi⟩ : ∃ i, pos (n.kids.map fb) (fbS rest) = i := ⟨_, rfl⟩
 rw [hi] at q2
 have HI := Aside0.mk hi
 clear hn hn0 ho hl ei ef ex hh hfew hple hk hi hk0 hs0
 unfold ptr
 go_enter Try.func98, Try.ntmps98
 go_wp2_with (go_at_call 124; refine q1.out.mono ?_)
 rintro e w1 ⟨b, kv, m, rfl, hf⟩
 have q3 := Aside0.mk (q2.out w1 b kv m hf)
 have HF := Aside0.mk hf
 have k2 : w1.cell? ⟨b, 2, none⟩ = some kv := by rw [blk_cell hf.blk]; rfl
 have f2 : w1.frozen? ⟨b, 2, none⟩ = false := blk_frozen hf.blk 2
 clear hf q1 q2
 unfold ptr
 unfold ptr at q3
 go_wp2_with (go_at_call 125; refine q3.out.mono ?_)
 rintro e w2 ⟨rfl, rfl⟩
 clear q3
 go_wp2_with fail
 have q4 := Aside0.mk (putTip w2 w.heap.size kv n.kids.length (ptrs n.kids) i rest l.b HF.out.row (by have := HN.out.2.2.2; rw [HI.out] at this; exact this) HN.out.2.2.1 (fun u hu => by obtain ⟨x, _, rfl⟩ := List.mem_map.1 hu; rfl) HF.out.kept.size)
 have a1 : ∀ o, (w2.alloc o).cell? ⟨b, 2, none⟩ = some kv := fun o => cellA k2
 have a2 : ∀ o o', ((w2.alloc o).alloc o').cell? ⟨b, 2, none⟩ = some kv := fun o o' => cellA (a1 o)
 have a3 : ∀ o o' o'', (((w2.alloc o).alloc o').alloc o'').cell? ⟨b, 2, none⟩ = some kv := fun o o' o'' => cellA (a2 o o')
 have a4 : ∀ o o' o'' o''', ((((w2.alloc o).alloc o').alloc o'').alloc o''').cell? ⟨b, 2, none⟩ = some kv := fun o o' o'' o''' => cellA (a3 o o' o'')
 go_region_with (first
  | (go_at_call 99; refine (watchNew _).mono ?_; rintro e w3 ⟨rfl, rfl⟩; unfold ptr watchObj)
  | (go_at_call 130; refine q4.out.mono ?_; rintro e w5 ⟨v', rfl, ho5, hg5, hat5⟩; obtain ⟨A5, c5, rfl⟩ := owns_form ho5; have hb5 : w5.heap[b]? = some (.cells #[.string n.label, leafPtr n.leaf, kv, m] 117 (0, 0)) := grown_at hg5 ((Kept.of (tipW_facts w2 rest l.b).2.2.2.2.2).at HF.out.blk) HF.out.off; have f5 : w5.frozen? ⟨b, 2, none⟩ = false := blk_frozen hb5 2; have k5 : w5.cell? ⟨b, 2, none⟩ = some kv := (by rw [blk_cell hb5]; rfl); have H5 := Aside0.mk (And.intro ho5 (And.intro hg5 (And.intro hat5 hb5))); clear ho5 hg5 hat5 hb5))
 all_goals go_wp2_with fail
 all_goals go_ret2
 all_goals obtain ⟨h1, h2, h3, h4⟩ := H5.out
 all_goals have q5 := new_close w0 w w2 w5 HK0.out.1 HK0.out.2 n rest l b kv m _ i HN.out.1 HN.out.2.1 HF.out h1 h2 h3 h4
 all_goals exact ⟨ns1 (b, m) (w2.heap.size + 1 + 1, ptr (w2.heap.size + 1)), rfl, by rw [HE.out, HI.out]; exact q5.1, q5.2.1, q5.2.2⟩
end Go.Proofs.Ytjhgknagmiekeaa.T
set_option linter.unusedVariables false
set_option linter.unusedSimpArgs false
namespace Go.Proofs.Ytjhgknagmiekeaa.T
open Go.RowKit Go.Lib Go.Proofs Go.Proofs.YtjhgknagmiekeaaW.PrintWords
theorem Qt.cell {a b : World} (h : Qt a b) {x : Addr} {v : Value} (hv : a.cell? x = some v) : b.cell? x = some v := h.kept.cell hv
theorem Qt.frozen {a b : World} (h : Qt a b) {x : Addr} {v : Bool} (hv : a.frozen? x = v) : b.frozen? x = v := by unfold World.frozen? at hv ⊢; rw [h.heap]; exact hv
theorem set_cell_ne {w : World} {b g i j : Nat} {v x : Value} (h : w.cell? ⟨b, j, none⟩ = some x) (hne : ¬ b = g) : (w.setCell ⟨g, i, none⟩ v).cell? ⟨b, j, none⟩ = some x := by
 have h2 : (w.setCell ⟨g, i, none⟩ v).heap[b]? = w.heap[b]? := Below.heap_setCell w ⟨g, i, none⟩ v b hne
 unfold World.cell? at h ⊢
 rw [h2]
 exact h
theorem owns_some {w : World} {base n : Nat} {v : Value} {ps : List Value} (h : w.ownsRow base 58 1 v n ps) (hn : 0 < n) : ∃ g cap cur, v = .slice (some ⟨g, 0, none⟩) n cap ∧ base ≤ g ∧ w.heap[g]? = some (.cells cur 58 (0, 0)) ∧ (∀ j, j < n → cur[j]? = ps[j]?) ∧ n ≤ cap ∧ cap ≤ maxLen ∧ cur.size = cap := by
 have hl : ps.length = n := by simpa using h.1
 rcases h.2 with ⟨rfl, h0⟩ | ⟨g, cap, cur, rfl, hb, hg, hnc, hcm, hcs, ht⟩
 ·omega
 ·refine ⟨g, cap, cur, rfl, hb, hg, fun j hj => ?_, hnc, hcm, by omega⟩
  have e := List.getElem?_take_of_lt (l := cur.toList) (show j < n * 1 by omega)
  rw [ht] at e
  rw [← Array.getElem?_toList]
  exact e.symm
theorem kidN_some {n k : Nd} {rest : ByteArray} (h : kidN n rest = some k) : hit (n.kids.map fb) (fbS rest) = true ∧ ∃ hi : pos (n.kids.map fb) (fbS rest) < n.kids.length, n.kids[pos (n.kids.map fb) (fbS rest)] = k := by
 unfold kidN at h
 split at h
 ·rename_i h1
  have h2 := hit_lt h1
  rw [List.length_map] at h2
  rw [List.getElem?_eq_getElem h2] at h
  exact ⟨h1, h2, Option.some.inj h⟩
 ·cases h
theorem insN_b (n : Nd) (rest : ByteArray) (l : Lf) (ns : Sup) : (insN n rest l ns).b = (ns 0).1 := by
 rw [insN]
 split
 ·rfl
 ·split
  ·rfl
  ·split <;> rfl
def nsUp (a : Nat × Value) (ns : Sup) : Sup := fun j => if j = 0 then a else ns (j - 1)
theorem nsUp_tail (a : Nat × Value) (ns : Sup) : (fun j => nsUp a ns (j + 1)) = ns := by
 funext j
 simp [nsUp]
theorem deep_close (w0 w w2 w3 w4 : World) (hk0 : Kept w0 w) (hs0 : w0.heap.size ≤ w.heap.size) (n t : Nd) (b g cap i : Nat) (cur : Array Value) (m : Value) (ns : Sup) (hn : NdAt w0 n) (hf : FreshAt w w2 n b (.slice (some ⟨g, 0, none⟩) n.kids.length cap) m) (hQ : Qt w2 w3)
  (hgb : w.heap.size ≤ g) (hgg : w2.heap[g]? = some (.cells cur 58 (0, 0))) (hgc : ∀ j, j < n.kids.length → cur[j]? = (ptrs n.kids)[j]?) (hgn : n.kids.length ≤ cap) (hgm : cap ≤ maxLen) (hgs : cur.size = cap) (hi : i < n.kids.length)
  (h1 : Rob w0.heap.size w3.heap.size w4 t) (h2 : SupOk w3.heap.size w4 ns) (h3 : Below w3.heap.size w3 w4) (htb : t.b = (ns 0).1) :
  Rob w0.heap.size w.heap.size (w4.setCell ⟨g, i, none⟩ (.pointer (some ⟨(ns 0).1, 0, none⟩))) (.mk b n.label n.leaf (n.kids.set i t) m) ∧ SupOk w.heap.size (w4.setCell ⟨g, i, none⟩ (.pointer (some ⟨(ns 0).1, 0, none⟩))) (nsUp (b, m) ns) ∧ Below w.heap.size w (w4.setCell ⟨g, i, none⟩ (.pointer (some ⟨(ns 0).1, 0, none⟩))) := by
 obtain ⟨kv0, hb0, _, hlf, hks⟩ := hn.parts
 have hs23 : w3.heap.size = w2.heap.size := by rw [hQ.heap]
 have hsw := hf.kept.size
 have hbs : b < w2.heap.size := (Array.getElem?_eq_some_iff.1 hf.blk).1
 have hgs2 : g < w2.heap.size := (Array.getElem?_eq_some_iff.1 hgg).1
 have hbg : b ≠ g := fun e => by have h := hf.blk; rw [e, hgg] at h; cases h
 have B4 : Below w.heap.size w w4 := (hf.kept.trans (hQ.below _)).trans ⟨h3.os, h3.tape, h3.output, h3.size, fun k hk => h3.block k (by omega)⟩
 have B5 := kept_set B4 g hgb i (.pointer (some ⟨(ns 0).1, 0, none⟩))
 have up : ∀ {x : Nat} {o : Obj}, w2.heap[x]? = some o → w4.heap[x]? = some o := fun {x o} h => (Kept.of h3).at (by rw [hQ.heap]; exact h)
 have hsz5 : (w4.setCell ⟨g, i, none⟩ (.pointer (some ⟨(ns 0).1, 0, none⟩))).heap.size = w4.heap.size := by simp [World.setCell]
 have hs34 := h3.size
 obtain ⟨c, hm, hc1, hc2, hc3⟩ := hf.mark
 have hcg : c ≠ g := fun e => by rw [e, hgg] at hc2; cases hc2
 have hcg2 : c + 1 ≠ g := fun e => by rw [e, hgg] at hc3; unfold watchObj at hc3; cases hc3
 have hpl : (ptrs n.kids).length = n.kids.length := by simp [ptrs]
 refine ⟨fun w6 hag => ?_, ⟨fun j => ?_, fun j => ?_⟩, B5⟩
 ·have K6 : Kept w0 w6 := hag.kept (by have := B5.size; omega) (hk0.trans (Kept.of B5) hs0)
  have ag4 : Ag w0.heap.size w3.heap.size w4 w6 := fun x hx hb => by
   rw [hag x (by rw [hsz5]; exact hx) (by omega)]
   exact Below.heap_setCell w4 ⟨g, i, none⟩ _ x (by show x ≠ g; omega)
  refine NdAt.mk (kv := .slice (some ⟨g, 0, none⟩) n.kids.length cap) (hag.at (set_at (up hf.blk) hbg) (.inr hf.new)) ?_ (hlf.keep K6) ((NdsAt.keep K6 _ hks).set i _ (h1 w6 ag4)) ⟨_, hm⟩
  rw [ptrs_set]
  have hg6 := hag.at (heap_setCell w4 (g := g) (o := i) (.pointer (some ⟨(ns 0).1, 0, none⟩)) (up hgg)) (.inr hgb)
  refine row_of_owns (owns_of (base := w.heap.size) (n := n.kids.length) hgb hg6 hgn hgm (by simpa using hgs) (by simp [hpl]) ?_)
  intro j hj
  by_cases e : j = i
  ·subst e
   rw [Array.getElem?_setIfInBounds_self_of_lt (by omega), List.getElem?_set_self (by omega), htb]
   rfl
  ·rw [Array.getElem?_setIfInBounds_ne (by omega), List.getElem?_set_ne (by omega), hgc j hj]
 ·unfold nsUp
  split
  ·rw [hsz5]; exact ⟨hf.new, by show b < _; omega⟩
  ·rw [hsz5]; have := h2.new (j - 1); omega
 ·unfold nsUp
  split
  ·exact ⟨c, hm, hc1, set_at (up hc2) hcg, set_at (up hc3) hcg2⟩
  ·obtain ⟨d, e1, e2, e3, e4⟩ := h2.mark (j - 1)
   exact ⟨d, e1, by omega, set_at e3 (by omega), set_at e4 (by omega)⟩
set_option maxHeartbeats 4000000 in
set_option maxRecDepth 100000 in
theorem ins_deep (w0 w : World) (hk0 : Kept w0 w) (hs0 : w0.heap.size ≤ w.heap.size) (n k : Nd) (rest : ByteArray) (l : Lf) (hn0 : NdAt w0 n) (ho : Ok n) (hl : LfAt w0 (some l)) (h0 : 0 < rest.size) (hbig : rest.size < 4000000000000) (hk : kidN n rest = some k) (hp : 0 < comB k.label rest ∧ comB k.label rest = k.label.size) (hlab : k.label.size < 9000000000000000000)
  (IH : ∀ w1, Kept w0 w1 → w0.heap.size ≤ w1.heap.size → Calls Try.prog 98 #[ptr k.b, .string (rest.extract (comB k.label rest) rest.size), ptr l.b] w1 fun e w' => ∃ ns, e = .returned (.tuple #[ptr (ns 0).1, leafPtr (findN k (rest.extract (comB k.label rest) rest.size))]) ∧ Rob w0.heap.size w1.heap.size w' (insN k (rest.extract (comB k.label rest) rest.size) l ns) ∧ SupOk w1.heap.size w' ns ∧ Below w1.heap.size w1 w') :
  Calls Try.prog 98 #[ptr n.b, .string rest, ptr l.b] w fun e w' => ∃ ns, e = .returned (.tuple #[ptr (ns 0).1, leafPtr (findN n rest)]) ∧ Rob w0.heap.size w.heap.size w' (insN n rest l ns) ∧ SupOk w.heap.size w' ns ∧ Below w.heap.size w w' := by
 obtain ⟨hh, hlt, ek⟩ := kidN_some hk
 have hn := NdAt.keep hk0 n hn0
 have q1 := Aside0.mk (fresh w n hn ho.few)
 have q2 := Aside0.mk (fun w1 b kv m hf => kidF w w1 n b kv m hn ho hf (fbS rest) (fbS_lt rest))
 have ex : ((fbS rest : Nat) : Int) = (rest[0].toNat : Int) := by unfold fbS; rw [← byte0 rest h0]
 rw [hh, ex] at q2
 have hfew := ho.few
 have ei : ∀ ns, insN n rest l ns = .mk (ns 0).1 n.label n.leaf (n.kids.set (pos (n.kids.map fb) (fbS rest)) (insN k (rest.extract (comB k.label rest) rest.size) l (fun j => ns (j + 1)))) (ns 0).2 := fun ns => by rw [insN, dif_neg (by omega)]; simp only [hk]; rw [dif_pos hp]
 have ef : findN n rest = findN k (rest.extract (comB k.label rest) rest.size) := by rw [findN, dif_neg (by omega)]; simp only [hk]; rw [dif_pos hp]
 rw [ef]
 obtain ⟨fr, efr⟩ : ∃ fr, leafPtr (findN k (rest.extract (comB k.label rest) rest.size)) = fr := ⟨_, rfl⟩
 rw [efr]
 have hcle := comB_le k.label rest
 have hkAt : ∀ w1, Kept w w1 → NdAt w1 k := fun w1 h => by rw [← ek]; exact NdAt.keep h _ (hn.parts.choose_spec.2.2.2.get _ hlt)
 have HK0 := Aside0.mk (And.intro hk0 hs0)
 obtain ⟨i, hi⟩ : ∃ i, pos (n.kids.map fb) (fbS rest) = i := ⟨_, rfl⟩
 have ep := hp.2
 obtain ⟨len, elen⟩ : ∃ len, n.kids.length = len := ⟨_, rfl⟩
 have hne := full_of rest h0
 have q5 := Aside0.mk (fun w1 => common w1 k.label rest hlab)
 rw [ep] at q5 hcle
 have hle : k.label.size ≤ rest.size := hcle.2
 have hleI : (k.label.size : Int) ≤ (rest.size : Int) := by omega
 rw [hi] at q2
 have hlt' : i < len := by rw [← hi, ← elen]; exact hlt
 have HE := Aside0.mk ei
 have HN := Aside0.mk (And.intro hn0 (And.intro hl (And.intro hkAt (And.intro hi (And.intro ep elen)))))
 have HK := Aside0.mk (And.intro hlt ek)
 have HI := Aside0.mk IH
 rw [efr, ep] at HI
 clear hn hn0 hk0 hs0 ho hl ei ef ex hh hfew hk hi ek IH hkAt efr ep hp hcle
 unfold ptr
 go_enter Try.func98, Try.ntmps98
 go_wp2_with (go_at_call 124; refine q1.out.mono ?_)
 rintro e w1 ⟨b, kv, m, rfl, hf⟩
 have q3 := Aside0.mk (q2.out w1 b kv m hf)
 have HF := Aside0.mk hf
 obtain ⟨g, cap, cur, rfl, hgb, hgg, hgc, hgn, hgm, hgs⟩ := owns_some hf.row (by omega)
 rw [elen] at hf hgc hgn HF
 have k2 : w1.cell? ⟨b, 2, none⟩ = some (.slice (some ⟨g, 0, none⟩) len cap) := by rw [blk_cell hf.blk]; rfl
 have ki : w1.cell? ⟨g, i, none⟩ = some (.pointer (some ⟨k.b, 0, none⟩)) := by
  rw [blk_cell hgg, hgc i hlt']
  have h1 := HK.out
  have h2 := HN.out.2.2.2.1
  obtain ⟨h3, h4⟩ := h1
  simp only [h2] at h3 h4
  simp [ptrs, List.getElem?_eq_getElem h3, h4, ptr]
 have kl : w1.cell? ⟨k.b, 0, none⟩ = some (.string k.label) := by
  obtain ⟨_, hb1, _⟩ := (HN.out.2.2.1 w1 (Kept.of hf.kept)).parts
  rw [blk_cell hb1]; rfl
 have HG := Aside0.mk (And.intro hgb (And.intro hgg (And.intro hgc (And.intro hgn (And.intro hgm hgs)))))
 clear hf q1 q2 hgb hgg hgc hgn hgm hgs
 unfold ptr
 unfold ptr at q3
 go_wp2_with (go_at_call 125; refine q3.out.mono ?_)
 rintro e w2 ⟨rfl, rfl⟩
 clear q3
 go_wp2_with (go_at_call 131; refine (q5.out _).mono ?_)
 rintro e w3 ⟨rfl, hQ⟩
 have k2' := hQ.cell k2
 have ki' := hQ.cell ki
 have kl' := hQ.cell kl
 have HQ := Aside0.mk hQ
 clear hQ q5
 go_wp2_with fail
 have hkept3 := HF.out.kept
 have hs3 : w3.heap.size = w2.heap.size := by rw [HQ.out.heap]
 have K3 : Kept w0 w3 := (HK0.out.1.trans (Kept.of hkept3) HK0.out.2).trans HQ.out.kept (by have := HK0.out.2; have := hkept3.size; omega)
 have hi3 := HI.out w3.drew K3 (by show w0.heap.size ≤ w3.heap.size; have := HK0.out.2; have := hkept3.size; omega)
 have q6 := Aside0.mk hi3
 have hgg3 : w3.heap[g]? = some (.cells cur 58 (0, 0)) := by rw [HQ.out.heap]; exact HG.out.2.1
 have HG3 := Aside0.mk (And.intro K3 (And.intro hgg3 hs3))
 have hbg : ¬ b = g := fun e => by have h1 := HF.out.blk; rw [e, HG.out.2.1] at h1; cases h1
 clear hkept3 hs3 K3 hi3 hgg3 ki kl k2 HI
 unfold ptr at q6
 go_region_held3 (fun w' => w'.cell? ⟨b, 2, none⟩ = some (.slice (some ⟨g, 0, none⟩) len cap))
  (first | exact k2' | exact k4 | exact (set_cell_ne k4 hbg))
  (first
   | (go_at_call 98; refine q6.out.mono ?_; rintro e w4 ⟨ns, rfl, h1, h2, h3⟩; have k4 := (Kept.of h3).cell k2'; have hg4 := (Kept.of h3).at HG3.out.2.1; have f4 : w4.frozen? ⟨g, i, none⟩ = false := blk_frozen hg4 i; have c4 := (Kept.of h3).cell ki'; have H4 := Aside0.mk (And.intro h1 (And.intro h2 (And.intro h3 hg4))); clear h1 h2 h3 hg4))
 go_wp2_with fail
 go_ret2
 obtain ⟨h1, h2, h3, h4⟩ := H4.out
 obtain ⟨hgb, hgg, hgc, hgn, hgm, hgs⟩ := HG.out
 obtain ⟨hn, hl, hkAt, hi, ep, elen'⟩ := HN.out
 subst elen
 have q7 := deep_close w0 w w2 w3 w4 HK0.out.1 HK0.out.2 n _ b g cap i cur m ns hn HF.out HQ.out hgb hgg hgc hgn hgm hgs hlt' h1 h2 ⟨h3.os, h3.tape, h3.output, h3.size, h3.block⟩ (insN_b _ _ _ _)
 refine ⟨nsUp (b, m) ns, rfl, ?_, q7.2.1, q7.2.2⟩
 have e7 := HE.out (nsUp (b, m) ns)
 rw [hi, ep, nsUp_tail] at e7
 rw [e7]
 exact q7.1
end Go.Proofs.Ytjhgknagmiekeaa.T
