/- joined: TR0 TR1 WTab WRepsOne WInv -/
import Derived.Test.YtjhgknagmiekeaaGreatChecked
import Derived.Test.YtjhgknagmiekeaaGreatJR0
import Derived.Test.YtjhgknagmiekeaaGreatShelf
import Derived.Handy
import Derived.Lib.SliceRun
import Derived.Laws.AppendOwn
import Derived.Laws.AppendOwnNone
import Derived.WalkSpells
set_option linter.unusedVariables false
set_option linter.unusedSimpArgs false
namespace Go.Proofs.YtjhgknagmiekeaaGreat.T
open Go.RowKit Go.Proofs.YtjhgknagmiekeaaGreatW.PrintWords
structure Lf where
  b : Nat
  key : ByteArray
  val : Value
  mark : Value
inductive Nd where
  | mk (b : Nat) (label : ByteArray) (leaf : Option Lf) (kids : List Nd) (mark : Value)
def Nd.b : Nd → Nat | .mk b _ _ _ _ => b
def Nd.label : Nd → ByteArray | .mk _ l _ _ _ => l
def Nd.leaf : Nd → Option Lf | .mk _ _ l _ _ => l
def Nd.kids : Nd → List Nd | .mk _ _ _ k _ => k
def Nd.mark : Nd → Value | .mk _ _ _ _ m => m
instance : Inhabited Nd := ⟨.mk 0 .empty none [] .nilFunc⟩
def ptr (b : Nat) : Value := .pointer (some ⟨b, 0, none⟩)
def leafPtr : Option Lf → Value | none => .pointer none | some l => ptr l.b
def ptrs (ks : List Nd) : List Value := ks.map (fun k => ptr k.b)
def Row (w : World) (v : Value) (ps : List Value) : Prop := (v = .slice none 0 0 ∧ ps = []) ∨ ∃ ad c, v = .slice (some ad) ps.length c ∧ ∀ i (h : i < ps.length), w.cell? (ad.add i) = some ps[i] ∧ ∃ cs fr, w.heap[ad.block]? = some (.cells cs 106 fr)
theorem Row.open {w : World} {v : Value} {ps : List Value} (h : Row w v ps) : ∃ A c, v = .slice A ps.length c ∧ ∀ i (h : i < ps.length), ∃ ad, A = some ad ∧ w.cell? (ad.add i) = some ps[i] := by
  rcases h with ⟨rfl, rfl⟩ | ⟨ad, c, rfl, h⟩
  · exact ⟨none, 0, rfl, fun i hi => by simp at hi⟩
  · exact ⟨some ad, c, rfl, fun i hi => ⟨ad, rfl, (h i hi).1⟩⟩
def LfAt (w : World) (o : Option Lf) : Prop := ∀ l, o = some l → w.heap[l.b]? = some (.cells #[.string l.key, l.val, l.mark] 134 (0, 0))
mutual
def NdAt (w : World) : Nd → Prop
  | .mk b label leaf kids mark => (∃ kv, w.heap[b]? = some (.cells #[.string label, leafPtr leaf, kv, mark] 145 (0, 0)) ∧ Row w kv (ptrs kids)) ∧ LfAt w leaf ∧ NdsAt w kids ∧ ∃ mb, mark = ptr mb
def NdsAt (w : World) : List Nd → Prop
  | [] => True
  | n :: r => NdAt w n ∧ NdsAt w r
end
def Kept (w w' : World) : Prop := ∀ k, k < w.heap.size → w'.heap[k]? = w.heap[k]?
theorem Kept.of {w w' : World} (h : Below w.heap.size w w') : Kept w w' := h.block
theorem Kept.cell {w w' : World} (h : Kept w w') {a : Addr} {v : Value} (hv : w.cell? a = some v) : w'.cell? a = some v :=
  (World.cell?_of_block (h a.block (World.block_lt_of_cell? w a hv))).trans hv
theorem Kept.at {w w' : World} (h : Kept w w') {b : Nat} {o : Obj} (hv : w.heap[b]? = some o) : w'.heap[b]? = some o :=
  (h b (Array.getElem?_eq_some_iff.1 hv).1).trans hv
theorem Row.keep {w w' : World} {v : Value} {ps : List Value} (h : Row w v ps) (hk : Kept w w') : Row w' v ps := by
  rcases h with h | ⟨ad, c, hv, hr⟩
  · exact .inl h
  · exact .inr ⟨ad, c, hv, fun i hi => ⟨hk.cell (hr i hi).1, by obtain ⟨cs, fr, h⟩ := (hr i hi).2; exact ⟨cs, fr, hk.at h⟩⟩⟩
theorem LfAt.keep {w w' : World} {o : Option Lf} (h : LfAt w o) (hk : Kept w w') : LfAt w' o := fun l e => hk.at (h l e)
mutual
theorem NdAt.keep {w w' : World} (hk : Kept w w') : ∀ t : Nd, NdAt w t → NdAt w' t
  | .mk b label leaf kids mark, h => by
    unfold NdAt at h ⊢
    obtain ⟨⟨kv, h1, h2⟩, h3, h4, h5⟩ := h
    exact ⟨⟨kv, hk.at h1, h2.keep hk⟩, h3.keep hk, NdsAt.keep hk kids h4, h5⟩
theorem NdsAt.keep {w w' : World} (hk : Kept w w') : ∀ ks : List Nd, NdsAt w ks → NdsAt w' ks
  | [], _ => by unfold NdsAt; trivial
  | n :: r, h => by
    unfold NdsAt at h ⊢
    exact ⟨NdAt.keep hk n h.1, NdsAt.keep hk r h.2⟩
end
theorem NdsAt.get {w : World} : ∀ {ks : List Nd}, NdsAt w ks → ∀ i (h : i < ks.length), NdAt w ks[i]
  | n :: r, h, 0, _ => by unfold NdsAt at h; exact h.1
  | n :: r, h, i + 1, hi => by unfold NdsAt at h; exact NdsAt.get (ks := r) h.2 i (by simpa using hi)
def fb (n : Nd) : Nat := (n.label.data.toList.getD 0 0).toNat
mutual
def Ok : Nd → Prop
  | .mk _ _ _ kids _ => (kids.map fb).Pairwise (· < ·) ∧ (∀ k ∈ kids, 0 < k.label.size) ∧ Oks kids
def Oks : List Nd → Prop
  | [] => True
  | n :: r => Ok n ∧ Oks r
end
theorem Oks.get : ∀ {ks : List Nd}, Oks ks → ∀ k ∈ ks, Ok k
  | n :: r, h, k, hk => by
    unfold Oks at h
    rcases List.mem_cons.1 hk with e | e
    · rw [e]; exact h.1
    · exact Oks.get h.2 k e
def pos : List Nat → Nat → Nat
  | [], _ => 0
  | y :: r, x => if y < x then pos r x + 1 else 0
theorem pos_le : ∀ (l : List Nat) (x : Nat), pos l x ≤ l.length
  | [], _ => Nat.le_refl _
  | y :: r, x => by unfold pos; have := pos_le r x; split <;> simp <;> omega
theorem pos_unique : ∀ (l : List Nat) (x i : Nat), l.Pairwise (· < ·) → i ≤ l.length → (∀ j (h : j < l.length), j < i → l[j] < x) → (∀ (h : i < l.length), x ≤ l[i]) → pos l x = i
  | [], x, i, _, hi, _, _ => by simp at hi; simp [pos, hi]
  | y :: r, x, 0, _, _, _, h2 => by unfold pos; have := h2 (by simp); simp at this; rw [if_neg (by omega)]
  | y :: r, x, i + 1, hp, hi, h1, h2 => by
    unfold pos
    have := h1 0 (by simp) (by omega)
    simp at this
    rw [if_pos this, pos_unique r x i (List.pairwise_cons.1 hp).2 (by simpa using hi) (fun j hj hji => h1 (j + 1) (by simp; omega) (by omega)) (fun h => h2 (by simp; omega))]
end Go.Proofs.YtjhgknagmiekeaaGreat.T
set_option linter.unusedVariables false
set_option linter.unusedSimpArgs false
namespace Go.Proofs.YtjhgknagmiekeaaGreat.T
open Go.RowKit Go.Proofs.YtjhgknagmiekeaaGreatW.PrintWords
theorem blk_cell {w : World} {b : Nat} {cs : Array Value} {t : TypeId} {f : Nat × Nat} (h : w.heap[b]? = some (.cells cs t f)) (i : Nat) : w.cell? ⟨b, i, none⟩ = cs[i]? := Lib.cell_of_heap h i
theorem byte0 (s : ByteArray) (h : 0 < s.size) : (s[0].toNat : Nat) = (s.data.toList.getD 0 0).toNat := by
  have e : s[0] = s.data[0]'h := rfl
  rw [e]
  have h2 : 0 < s.data.toList.length := by rw [Array.length_toList]; exact h
  rw [List.getD_eq_getElem?_getD, List.getElem?_eq_getElem h2]
  simp
theorem byteAt (s : ByteArray) (i : Nat) (h : i < s.size) : (s[i].toNat : Nat) = (s.data.toList.getD i 0).toNat := by
  have e : s[i] = s.data[i]'h := rfl
  rw [e]
  have h2 : i < s.data.toList.length := by rw [Array.length_toList]; exact h
  rw [List.getD_eq_getElem?_getD, List.getElem?_eq_getElem h2]
  simp
set_option maxHeartbeats 4000000 in
set_option maxRecDepth 100000 in
theorem kid1 (w : World) (b : Nat) (label : ByteArray) (lp kv m : Value) (x : Nat) (hb : w.heap[b]? = some (.cells #[.string label, lp, kv, m] 145 (0, 0))) (hl : 0 < label.size) (hx : x < 256) :
    Calls Tryz.prog 121 #[ptr b, .int .u8 x] w fun e w' => e = .returned (.int .i64 (((label.data.toList.getD 0 0).toNat : Int) - x)) ∧ w' = w := by
  have c0 : w.cell? ⟨b, 0, none⟩ = some (.string label) := by rw [blk_cell hb]; rfl
  unfold ptr
  clear hb
  go_enter Tryz.func121, Tryz.ntmps121
  go_wp2_with fail
  go_ret
  have h0 := byte0 label hl
  have h1 : label[0].toNat < 256 := label[0].toNat_lt
  have e1 : wrap64 (label[0].toNat : Int) = label[0].toNat := by unfold wrap64; omega
  have e2 : wrap64 ((label[0].toNat : Int) - x) = (label[0].toNat : Int) - x := by unfold wrap64; omega
  rw [← h0, e1, e2]
  exact ⟨rfl, rfl⟩
def hit (fs : List Nat) (x : Nat) : Bool := decide (fs[pos fs x]? = some x)
theorem NdAt.parts {w : World} {n : Nd} (h : NdAt w n) : ∃ kv, w.heap[n.b]? = some (.cells #[.string n.label, leafPtr n.leaf, kv, n.mark] 145 (0, 0)) ∧ Row w kv (ptrs n.kids) ∧ LfAt w n.leaf ∧ NdsAt w n.kids := by
  cases n with
  | mk b label leaf kids mark =>
    unfold NdAt at h
    obtain ⟨⟨kv, h1, h2⟩, h3, h4, _⟩ := h
    exact ⟨kv, h1, h2, h3, h4⟩
theorem NdAt.markP {w : World} {n : Nd} (h : NdAt w n) : ∃ mb, n.mark = ptr mb := by
  cases n with
  | mk b label leaf kids mark =>
    unfold NdAt at h
    exact h.2.2.2
set_option maxHeartbeats 4000000 in
set_option maxRecDepth 100000 in
theorem bsearch (w : World) (kv : Value) (ks : List Nd) (x : Nat) (hr : Row w kv (ptrs ks)) (hk : NdsAt w ks) (hs : (ks.map fb).Pairwise (· < ·)) (hp : ∀ k ∈ ks, 0 < k.label.size) (hx : x < 256) (hz : ks.length < 1000000000000) :
    Calls Tryz.prog 120 #[kv, .int .u8 x, .func (.func 121) #[] #[]] w fun e w' => e = .returned (.tuple #[.int .i64 (pos (ks.map fb) x), .bool (hit (ks.map fb) x)]) ∧ w' = w := by
  obtain ⟨A, c, rfl, hA⟩ := hr.open
  have hlen : (ptrs ks).length = ks.length := by simp [ptrs]
  rw [hlen]
  have HA := Aside0.mk (show ∀ i (h : i < ks.length), ∃ ad, A = some ad ∧ w.cell? (ad.add i) = some (ptr ks[i].b) from fun i h => by
    obtain ⟨ad, h1, h2⟩ := hA i (by rw [hlen]; exact h)
    exact ⟨ad, h1, by simpa [ptrs] using h2⟩)
  have HK := Aside0.mk hk
  have HS := Aside0.mk (And.intro hs hp)
  clear hA hk hs hp hlen
  go_enter Tryz.func120, Tryz.ntmps120
  go_wp2_with fail
  go_loopg [9, 10] (ks.length + 1) (fun kq v9 v10 w' => ∃ (i j : Nat), v9 = .int .i64 (i : Int) ∧ v10 = .int .i64 (j : Int) ∧ Aside0 (i ≤ j ∧ j ≤ ks.length ∧ j + 1 ≤ kq + i) ∧ Aside0 (∀ t (h : t < (ks.map fb).length), t < i → (ks.map fb)[t] < x) ∧
     Aside0 (∀ t (h : t < (ks.map fb).length), j ≤ t → x ≤ (ks.map fb)[t]) ∧ Aside0 (w' = w))
  case atStart =>
    refine ⟨0, ks.length, rfl, rfl, ⟨by omega, by omega, by omega⟩, ⟨fun t h h2 => by omega⟩, ⟨fun t h h2 => by simp at h; omega⟩, ⟨rfl⟩⟩
  case round =>
    obtain ⟨i, j, rfl, rfl, HI, HL, HG, HH⟩ := hrel
    by_cases hij : i < j
    · have hm : (i + j) / 2 < ks.length := by have := HI.out; omega
      obtain ⟨ad, ea, ka⟩ := HA.out ((i + j) / 2) hm
      obtain ⟨kvm, k1, _, _, _⟩ := (HK.out.get _ hm).parts
      have hlb := HS.out.2 ks[(i + j) / 2] (List.getElem_mem _)
      obtain ⟨bm, ebm⟩ : ∃ bm, ks[(i + j) / 2].b = bm := ⟨_, rfl⟩
      obtain ⟨lm, elm⟩ : ∃ lm, ks[(i + j) / 2].label = lm := ⟨_, rfl⟩
      rw [ebm] at ka k1
      rw [elm] at k1 hlb
      have efb : ∀ (h : (i + j) / 2 < (ks.map fb).length), (ks.map fb)[(i + j) / 2] = (lm.data.toList.getD 0 0).toNat := fun h => by rw [← elm]; simp [fb]
      have HE := Aside0.mk efb
      subst ea
      clear ebm elm efb
      have ka' : wr.cell? (ad.add ((i + j) / 2)) = some (ptr bm) := by rw [HH.out]; exact ka
      have k1' : wr.heap[bm]? = some (.cells #[.string lm, leafPtr ks[(i + j) / 2].leaf, kvm, ks[(i + j) / 2].mark] 145 (0, 0)) := by rw [HH.out]; exact k1
      have q0 := kid1 wr bm lm _ _ _ x k1' hlb hx
      obtain ⟨y, ey⟩ : ∃ y, (lm.data.toList.getD 0 0).toNat = y := ⟨_, rfl⟩
      have efb := HE.out
      rw [ey] at q0 efb
      have q1 := Aside0.mk q0
      have HY := Aside0.mk efb
      have hm2 : (i + j) / 2 < (ks.map fb).length := by rw [List.length_map]; exact hm
      have HM := Aside0.mk hm2
      clear ka k1 k1' hlb q0 efb HE ey hm2
      go_wp2_with (go_at_call 121; refine q1.out.mono ?_)
      rintro e w' ⟨rfl, rfl⟩
      clear q1 ka'
      by_cases hlt : y < x
      · go_wp2_with fail
        go_roundg (j - i)
        case measure => have := HI.out; omega
        case rel =>
          refine ⟨(i + j) / 2 + 1, j, by simp, rfl, ⟨by have := HI.out; omega⟩, ⟨fun t h h2 => ?_⟩, HG, HH⟩
          have := HY.out HM.out
          by_cases e : t = (i + j) / 2
          · subst e; omega
          · have := List.pairwise_iff_getElem.1 HS.out.1 t ((i + j) / 2) h HM.out (by omega)
            omega
      · go_wp2_with fail
        go_roundg (j - i)
        case measure => have := HI.out; omega
        case rel =>
          refine ⟨i, (i + j) / 2, rfl, by simp, ⟨by have := HI.out; omega⟩, HL, ⟨fun t h h2 => ?_⟩, HH⟩
          have := HY.out HM.out
          by_cases e : t = (i + j) / 2
          · subst e; omega
          · have := List.pairwise_iff_getElem.1 HS.out.1 ((i + j) / 2) t HM.out h (by omega)
            omega
    · have hj : i = j := by have := HI.out; omega
      subst hj
      have hpos : pos (ks.map fb) x = i := pos_unique _ x i HS.out.1 (by have := HI.out; rw [List.length_map]; omega) (fun t h h2 => HL.out t h h2) (fun h => HG.out i h (Nat.le_refl _))
      have HP := Aside0.mk hpos
      clear hpos
      by_cases hin : i < ks.length
      · obtain ⟨ad, ea, ka⟩ := HA.out i hin
        obtain ⟨kvm, k1, _, _, _⟩ := (HK.out.get _ hin).parts
        have hlb := HS.out.2 ks[i] (List.getElem_mem _)
        subst ea
        have ka' : wr.cell? (ad.add i) = some (ptr ks[i].b) := by rw [HH.out]; exact ka
        rw [← HH.out] at k1
        have q0 := kid1 wr ks[i].b ks[i].label _ _ _ x k1 hlb hx
        obtain ⟨y, ey⟩ : ∃ y, (ks[i].label.data.toList.getD 0 0).toNat = y := ⟨_, rfl⟩
        rw [ey] at q0
        have q1 := Aside0.mk q0
        have HY := Aside0.mk ey
        obtain ⟨bm, ebm⟩ : ∃ bm, ks[i].b = bm := ⟨_, rfl⟩
        rw [ebm] at q1 ka'
        clear ka k1 hlb q0 ey ebm
        go_wp2_with (go_at_call 121; refine q1.out.mono ?_)
        rintro e w' ⟨rfl, rfl⟩
        clear q1 ka'
        go_wp2_with fail
        go_ret2
        refine ⟨?_, HH.out⟩
        have e1 : (((y : Int) - x) == 0) = hit (ks.map fb) x := by
          unfold hit
          rw [HP.out, List.getElem?_eq_getElem (by rw [List.length_map]; exact hin)]
          have e2 : (ks.map fb)[i]'(by rw [List.length_map]; exact hin) = y := by rw [← HY.out]; simp [fb]
          rw [e2]
          by_cases e3 : y = x
          · subst e3; simp
          · have : ¬ ((y : Int) - x = 0) := by omega
            simp [this, e3]
        rw [HP.out, ← e1]
        rfl
      · go_wp2_with fail
        go_ret2
        refine ⟨?_, HH.out⟩
        have e1 : hit (ks.map fb) x = false := by
          unfold hit
          rw [HP.out, List.getElem?_eq_none (by rw [List.length_map]; omega)]
          rfl
        rw [HP.out, e1]
        rfl
set_option maxHeartbeats 4000000 in
set_option maxRecDepth 100000 in
theorem kidOf (w : World) (b : Nat) (label : ByteArray) (lp kv m : Value) (ks : List Nd) (x : Nat) (hb : w.heap[b]? = some (.cells #[.string label, lp, kv, m] 145 (0, 0))) (hr : Row w kv (ptrs ks)) (hk : NdsAt w ks) (hs : (ks.map fb).Pairwise (· < ·)) (hp : ∀ k ∈ ks, 0 < k.label.size) (hx : x < 256) (hz : ks.length < 1000000000000) :
    Calls Tryz.prog 90 #[ptr b, .int .u8 x] w fun e w' => e = .returned (.tuple #[.int .i64 (pos (ks.map fb) x), .bool (hit (ks.map fb) x)]) ∧ w' = w := by
  have c2 : w.cell? ⟨b, 2, none⟩ = some kv := by rw [blk_cell hb]; rfl
  have q1 := Aside0.mk (bsearch w kv ks x hr hk hs hp hx hz)
  unfold ptr
  clear hb hr hk hs hp
  go_enter Tryz.func90, Tryz.ntmps90
  go_wp2_with (go_at_call 120; refine q1.out.mono ?_)
  rintro e w' ⟨rfl, rfl⟩
  go_wp2_with fail
  go_ret2
  exact ⟨rfl, rfl⟩
end Go.Proofs.YtjhgknagmiekeaaGreat.T
-- PRINTED BY print.sh 35421559b90ae4d0a3588c463048766b98c2df88dd9212a6774a882060cdf62d: not written by this session
namespace Go.Proofs.YtjhgknagmiekeaaGreatW.PrintLast
open Go.Proofs.YtjhgknagmiekeaaGreatW.PrintWords (Aside0)
def needsOf (md : Region.Mode) (o : Oper) : List Nat := (o.after.toList.filter (fun e => Region.binds md e)).map (fun e => e.on)
def clashOf (md : Region.Mode) (ops : Array Oper) (i : Nat) (oi : Oper) : List Nat := (List.range ops.size).filter fun j => !(j == i) && match ops[j]? with
  | some oj => !(oj.after.any (fun e => Region.binds md e && e.on == i) || oi.apart ops oj)
  | none => false
def rtab (md : Region.Mode) (ops : Array Oper) : Bool × List (List Nat × List Nat) := (Region.noSelect ops, (List.range ops.size).map fun i => match ops[i]? with
  | some o => (needsOf md o, clashOf md ops i o)
  | none => ([], []))
def readyAt (T : List (List Nat × List Nat)) (l : List Bool) (i : Nat) : Bool := !l.getD i true && match T[i]? with
  | some r => r.1.all (fun j => l.getD j false)
  | none => false
def readyT (T : List (List Nat × List Nat)) (l : List Bool) : List Nat := (List.range T.length).filter (readyAt T l)
def freeT (T : List (List Nat × List Nat)) (l : List Bool) (i : Nat) : Bool := match T[i]? with
  | some r => r.2.all (fun j => l.getD j true)
  | none => false
def closedT (T : List (List Nat × List Nat)) (l : List Bool) : Bool := (List.range T.length).all fun j => !l.getD j false || match T[j]? with
  | some r => r.1.all (fun k => l.getD k false)
  | none => true
def reachT (T : List (List Nat × List Nat)) (i : Nat) : Nat → Nat → Bool
  | 0, _ => false
  | fuel + 1, d => match T[d]? with
    | some r => r.1.any fun j => j == i || reachT T i fuel j
    | none => false
def lastT (T : List (List Nat × List Nat)) (l : List Bool) (ds : List Nat) (i : Nat) : Bool := ds.all fun d => l.getD d true || reachT T i T.length d
section
variable {md : Region.Mode} {ops : Array Oper} {T : Bool × List (List Nat × List Nat)} {l l' li lj lk : Array Bool} {ds : List Nat} {i j k : Nat}
theorem gd (l : Array Bool) (j : Nat) (b : Bool) : l.getD j b = l.toList.getD j b := by simp [Array.getD_eq_getD_getElem?, List.getD_eq_getElem?_getD]
theorem needs_all (o : Oper) (p : Nat → Bool) : o.after.all (fun e => !Region.binds md e || p e.on) = (needsOf md o).all p := by
  unfold needsOf
  rw [← Array.all_toList]
  induction o.after.toList with
  | nil => rfl
  | cons e r ih =>
    rw [List.all_cons, ih, List.filter_cons]
    cases h : Region.binds md e <;> simp
theorem needs_any (o : Oper) (p : Nat → Bool) : o.after.any (fun e => Region.binds md e && p e.on) = (needsOf md o).any p := by
  unfold needsOf
  rw [← Array.any_toList]
  induction o.after.toList with
  | nil => rfl
  | cons e r ih =>
    rw [List.any_cons, ih, List.filter_cons]
    cases h : Region.binds md e <;> simp
theorem rtab_length : (rtab md ops).2.length = ops.size := by simp [rtab]
theorem rtab_some {o : Oper} (h : ops[i]? = some o) : (rtab md ops).2[i]? = some (needsOf md o, clashOf md ops i o) := by
  have hi := (Array.getElem?_eq_some_iff.1 h).1
  unfold rtab
  rw [List.getElem?_map, List.getElem?_range hi, Option.map_some, h]
theorem rtab_none (h : ops[i]? = none) : (rtab md ops).2[i]? = none := by
  have hi : ops.size ≤ i := Array.getElem?_eq_none_iff.1 h
  exact List.getElem?_eq_none (by rw [rtab_length]; exact hi)
theorem readyAt_eq : readyAt (rtab md ops).2 l.toList i = (!l.getD i true && ((ops[i]?).map (·.after.all fun e => !Region.binds md e || l.getD e.on false)).getD false) := by
  unfold readyAt
  rw [gd]
  cases h : ops[i]? with
  | none => rw [rtab_none h]; rfl
  | some o =>
    rw [rtab_some h]
    simp only [Option.map_some, Option.getD_some]
    rw [← needs_all]
    simp only [gd]
theorem ready_eq : Region.ready md ops l = readyT (rtab md ops).2 l.toList := by
  unfold Region.ready readyT
  rw [rtab_length]
  refine List.filter_congr (fun i _ => ?_)
  rw [readyAt_eq]
theorem free_eq : Region.free md ops l i = freeT (rtab md ops).2 l.toList i := by
  unfold Region.free freeT
  cases h : ops[i]? with
  | none => rw [rtab_none h]
  | some oi =>
    rw [rtab_some h]
    simp only [clashOf]
    rw [List.all_filter]
    congr 1
    funext j
    rw [gd]
    cases hj : ops[j]? with
    | none => cases (j == i) <;> cases (l.toList.getD j true) <;> simp
    | some oj =>
      cases (j == i) <;> cases (l.toList.getD j true) <;> cases (oj.after.any (fun e => Region.binds md e && e.on == i) || oi.apart ops oj) <;> simp_all
theorem closed_eq : Region.closedB md ops l = closedT (rtab md ops).2 l.toList := by
  unfold Region.closedB closedT
  rw [rtab_length]
  congr 1
  funext j
  rw [gd]
  cases h : ops[j]? with
  | none => rw [rtab_none h]
  | some o =>
    rw [rtab_some h]
    simp only
    rw [← needs_all]
    simp only [gd]
theorem reach_eq : ∀ (fuel d : Nat), Region.reachB md ops i fuel d = reachT (rtab md ops).2 i fuel d
  | 0, _ => rfl
  | fuel + 1, d => by
    unfold Region.reachB reachT
    cases h : ops[d]? with
    | none => rw [rtab_none h]
    | some o =>
      rw [rtab_some h]
      simp only
      rw [← needs_any]
      congr 1
      funext e
      rw [reach_eq fuel]
theorem last_eq : Region.lastB md ops l ds i = lastT (rtab md ops).2 l.toList ds i := by
  unfold Region.lastB lastT
  rw [rtab_length]
  congr 1
  funext d
  rw [gd, reach_eq]
theorem readyAt_mem (h : readyAt T.2 l.toList i = true) (hT : rtab md ops = T) : (Region.ready md ops l).contains i = true := by
  subst hT
  rw [ready_eq]
  unfold readyT
  rw [List.contains_iff_mem, List.mem_filter, List.mem_range]
  refine ⟨?_, h⟩
  unfold readyAt at h
  rw [Bool.and_eq_true] at h
  cases hq : (rtab md ops).2[i]? with
  | none => rw [hq] at h; simp at h
  | some r => exact (List.getElem?_eq_some_iff.1 hq).1
theorem set_of (h : (l.toList.set i true == l'.toList) = true) : (l.setIfInBounds i true == l') = true := by
  rw [beq_iff_eq] at h ⊢
  apply Array.ext'
  rw [Array.toList_setIfInBounds]
  exact h
def anyT (T : Bool × List (List Nat × List Nat)) (l l' : List Bool) (i : Nat) : Bool := T.1 && freeT T.2 l i && readyAt T.2 l i && (l.set i true == l')
theorem any_of (hT : rtab md ops = T) (h : anyT T l.toList l'.toList i = true) : anyB md ops l l' i = true := by
  simp only [anyT, Bool.and_eq_true] at h
  obtain ⟨⟨⟨h1, h2⟩, h3⟩, h4⟩ := h
  have h5 := readyAt_mem h3 hT
  have h6 := set_of h4
  subst hT
  simp only [anyB, Bool.and_eq_true]
  exact ⟨⟨⟨h1, by rw [free_eq]; exact h2⟩, h5⟩, h6⟩
def takeT (T : Bool × List (List Nat × List Nat)) (ds : List Nat) (l l' : List Bool) (i : Nat) : Bool := T.1 && freeT T.2 l i && readyAt T.2 l i && closedT T.2 l && lastT T.2 l ds i && (l.set i true == l')
theorem take_of (hT : rtab md ops = T) (h : takeT T ds l.toList l'.toList i = true) : takeB md ops ds l l' i = true := by
  simp only [takeT, Bool.and_eq_true] at h
  obtain ⟨⟨⟨⟨⟨h1, h2⟩, h3⟩, h4⟩, h5⟩, h6⟩ := h
  have h7 := readyAt_mem h3 hT
  have h8 := set_of h6
  subst hT
  simp only [takeB, Bool.and_eq_true]
  exact ⟨⟨⟨⟨⟨h1, by rw [free_eq]; exact h2⟩, h7⟩, by rw [closed_eq]; exact h4⟩, by rw [last_eq]; exact h5⟩, h8⟩
theorem one_of (hT : rtab md ops = T) (h : (readyT T.2 l.toList == [i] && l.toList.set i true == l'.toList) = true) : readyB md ops l l' i = true := by
  simp only [Bool.and_eq_true] at h
  obtain ⟨h1, h2⟩ := h
  subst hT
  simp only [readyB, Bool.and_eq_true]
  exact ⟨by rw [ready_eq]; exact h1, set_of h2⟩
theorem done_of (hT : rtab md ops = T) (h : (readyT T.2 l.toList == []) = true) : (Region.ready md ops l == []) = true := by
  subst hT
  rw [ready_eq]
  exact h
def upM (B : List Nat) (d : Nat) : List Nat → Nat
  | [] => 0
  | n :: r => (2 ^ n ||| (if n < d then B.getD n 0 else 0)) ||| upM B d r
def waitsOk (T : List (List Nat × List Nat)) (B : List Nat) : Bool := (List.range T.length).all fun d => match T[d]? with
  | some r => (B.getD d 0 ||| upM B d r.1) == upM B d r.1
  | none => false
theorem upM_bit {B : List Nat} {d i : Nat} : ∀ {ns : List Nat}, (upM B d ns).testBit i = true → ∃ n ∈ ns, n = i ∨ (n < d ∧ (B.getD n 0).testBit i = true)
  | [], h => by simp [upM] at h
  | n :: r, h => by
    unfold upM at h
    rw [Nat.testBit_or, Nat.testBit_or, Bool.or_eq_true, Bool.or_eq_true] at h
    rcases h with (h | h) | h
    · rw [Nat.testBit_two_pow] at h
      exact ⟨n, List.mem_cons_self, .inl (by simpa using h)⟩
    · by_cases hn : n < d
      · rw [if_pos hn] at h
        exact ⟨n, List.mem_cons_self, .inr ⟨hn, h⟩⟩
      · rw [if_neg hn] at h
        simp at h
    · obtain ⟨m, hm, h2⟩ := upM_bit h
      exact ⟨m, List.mem_cons_of_mem _ hm, h2⟩
theorem reach_bit {T : List (List Nat × List Nat)} {B : List Nat} (hB : waitsOk T B = true) : ∀ (fuel d : Nat), d < fuel → d < T.length → (B.getD d 0).testBit i = true → reachT T i fuel d = true
  | 0, d, h, _, _ => by omega
  | fuel + 1, d, h, hd, hb => by
    have h1 := List.all_eq_true.1 hB d (List.mem_range.2 hd)
    cases hr : T[d]? with
    | none => rw [hr] at h1; simp at h1
    | some r =>
      rw [hr] at h1
      simp only [beq_iff_eq] at h1
      have h2 : (upM B d r.1).testBit i = true := by rw [← h1, Nat.testBit_or, hb, Bool.true_or]
      obtain ⟨n, hn, h3⟩ := upM_bit h2
      unfold reachT
      rw [hr]
      simp only
      rw [List.any_eq_true]
      refine ⟨n, hn, ?_⟩
      rcases h3 with rfl | ⟨h4, h5⟩
      · simp
      · rw [reach_bit hB fuel n (by omega) (by omega) h5, Bool.or_true]
def lastW (T : List (List Nat × List Nat)) (B : List Nat) (l : List Bool) (ds : List Nat) (i : Nat) : Bool := ds.all fun d => l.getD d true || (decide (d < T.length) && (B.getD d 0).testBit i)
def takeW (T : Bool × List (List Nat × List Nat)) (B : List Nat) (ds : List Nat) (l l' : List Bool) (i : Nat) : Bool := T.1 && freeT T.2 l i && readyAt T.2 l i && closedT T.2 l && lastW T.2 B l ds i && (l.set i true == l')
theorem take_ofW {B : List Nat} (hT : rtab md ops = T) (hB : waitsOk T.2 B = true) (h : takeW T B ds l.toList l'.toList i = true) : takeB md ops ds l l' i = true := by
  refine take_of hT ?_
  simp only [takeW, takeT, Bool.and_eq_true] at h ⊢
  obtain ⟨⟨⟨⟨⟨h1, h2⟩, h3⟩, h4⟩, h5⟩, h6⟩ := h
  refine ⟨⟨⟨⟨⟨h1, h2⟩, h3⟩, h4⟩, ?_⟩, h6⟩
  unfold lastW at h5
  unfold lastT
  rw [List.all_eq_true] at h5 ⊢
  intro d hd
  have h7 := h5 d hd
  rw [Bool.or_eq_true, Bool.and_eq_true, decide_eq_true_eq] at h7
  rcases h7 with h7 | ⟨h8, h9⟩
  · rw [h7, Bool.true_or]
  · rw [reach_bit hB _ d h8 h8 h9, Bool.or_true]
theorem with_tabW {P : Program} {Q : Exit → Act → World → Prop} {S : World → Prop} {n : Nat} {a : Act} {w : World} {B : List Nat} (hT : rtab md ops = T) (hB : waitsOk T.2 B = true) (h : Aside0 (rtab md ops = T) → Aside0 (waitsOk T.2 B = true) → wpAnyLast P md ops Q S ds n l a w) : wpAnyLast P md ops Q S ds n l a w := h ⟨hT⟩ ⟨hB⟩
end
def opsIn : Code → Nat → Option (Array Oper)
  | .region id ops _, k => if id == k then some ops else none
  | .seq a b, k => match opsIn a k with
    | some o => some o
    | none => opsIn b k
  | .cond _ a b, k => match opsIn a k with
    | some o => some o
    | none => opsIn b k
  | .block _ c, k => opsIn c k
  | .loop c, k => opsIn c k
  | .scope c, k => opsIn c k
  | .rangeFunc _ _ a b, k => match opsIn a k with
    | some o => some o
    | none => opsIn b k
  | _, _ => none
def opsOf (f : Func) (k : Nat) : Array Oper := ((f.body.bind fun c => opsIn c k)).getD #[]
end Go.Proofs.YtjhgknagmiekeaaGreatW.PrintLast
-- PRINTED BY print.sh 35421559b90ae4d0a3588c463048766b98c2df88dd9212a6774a882060cdf62d: not written by this session
namespace Go.Proofs.YtjhgknagmiekeaaGreatW.PrintWords
theorem Reps.one {α : Type} {R : α → List Value → Prop} {ps : List α} {cs : List Value} {p : α} {v : Value} (hp : R p [v]) (h : Reps R 1 ps cs) : Reps R 1 (p :: ps) (v :: cs) := by
  refine ⟨by simp [h.1], fun j q hq => ?_⟩
  cases j with
  | zero =>
    simp only [List.getElem?_cons_zero, Option.some.injEq] at hq
    subst hq
    simpa using hp
  | succ j =>
    simp only [List.getElem?_cons_succ] at hq
    have h1 := h.2 j q hq
    simpa [Nat.mul_one] using h1
theorem Reps.front {α : Type} {R : α → List Value → Prop} {size : Nat} {ps : List α} {cs c all : List Value} {p : α} (hp : R p c) (hc : c.length = size) (h : Reps R size ps cs) (ha : c ++ cs = all) : Reps R size (p :: ps) all := by
  subst ha
  refine ⟨by rw [List.length_append, hc, h.1, List.length_cons, Nat.succ_mul, Nat.add_comm], fun j q hq => ?_⟩
  cases j with
  | zero =>
    simp only [List.getElem?_cons_zero, Option.some.injEq] at hq
    subst hq
    rw [Nat.zero_mul, List.drop_zero, List.take_append_of_le_length (by omega), List.take_of_length_le (by omega)]
    exact hp
  | succ j =>
    simp only [List.getElem?_cons_succ] at hq
    have h1 := h.2 j q hq
    rw [Nat.succ_mul, List.drop_append, List.drop_of_length_le (by rw [hc]; exact Nat.le_add_left _ _), List.nil_append, hc, Nat.add_sub_cancel]
    exact h1
theorem Reps.c2 {α : Type} {R : α → List Value → Prop} {ps : List α} {cs : List Value} {p : α} {va vb : Value} (hp : R p [va, vb]) (h : Reps R 2 ps cs) : Reps R 2 (p :: ps) (va :: vb :: cs) := Reps.front hp rfl h rfl
theorem Reps.c3 {α : Type} {R : α → List Value → Prop} {ps : List α} {cs : List Value} {p : α} {va vb vc : Value} (hp : R p [va, vb, vc]) (h : Reps R 3 ps cs) : Reps R 3 (p :: ps) (va :: vb :: vc :: cs) := Reps.front hp rfl h rfl
theorem Reps.c4 {α : Type} {R : α → List Value → Prop} {ps : List α} {cs : List Value} {p : α} {va vb vc vd : Value} (hp : R p [va, vb, vc, vd]) (h : Reps R 4 ps cs) : Reps R 4 (p :: ps) (va :: vb :: vc :: vd :: cs) := Reps.front hp rfl h rfl
theorem Reps.c5 {α : Type} {R : α → List Value → Prop} {ps : List α} {cs : List Value} {p : α} {va vb vc vd ve : Value} (hp : R p [va, vb, vc, vd, ve]) (h : Reps R 5 ps cs) : Reps R 5 (p :: ps) (va :: vb :: vc :: vd :: ve :: cs) := Reps.front hp rfl h rfl
theorem Reps.c6 {α : Type} {R : α → List Value → Prop} {ps : List α} {cs : List Value} {p : α} {va vb vc vd ve vf : Value} (hp : R p [va, vb, vc, vd, ve, vf]) (h : Reps R 6 ps cs) : Reps R 6 (p :: ps) (va :: vb :: vc :: vd :: ve :: vf :: cs) := Reps.front hp rfl h rfl
theorem Reps.c8 {α : Type} {R : α → List Value → Prop} {ps : List α} {cs : List Value} {p : α} {va vb vc vd ve vf vg vh : Value} (hp : R p [va, vb, vc, vd, ve, vf, vg, vh]) (h : Reps R 8 ps cs) : Reps R 8 (p :: ps) (va :: vb :: vc :: vd :: ve :: vf :: vg :: vh :: cs) := Reps.front hp rfl h rfl
end Go.Proofs.YtjhgknagmiekeaaGreatW.PrintWords
-- PRINTED BY print.sh 35421559b90ae4d0a3588c463048766b98c2df88dd9212a6774a882060cdf62d: not written by this session
namespace Go.Proofs.YtjhgknagmiekeaaGreatW.PrintLast
def up (b : Nat → Bool) (i : Nat) : Nat → Bool := fun j => if j = i then true else b j
section
variable {P : Program} {ops : Array Oper} {Q : Exit → Act → World → Prop} {md : Region.Mode} {T : Bool × List (List Nat × List Nat)} {B : List Nat} {O : List Nat} {b : Nat → Bool} {i j n : Nat}
def Closed (T : List (List Nat × List Nat)) (O : List Nat) (b : Nat → Bool) : Prop := ∀ d r, T[d]? = some r → O.contains d = true → b d = true → ∀ n ∈ r.1, O.contains n = true → b n = true
end
end Go.Proofs.YtjhgknagmiekeaaGreatW.PrintLast
