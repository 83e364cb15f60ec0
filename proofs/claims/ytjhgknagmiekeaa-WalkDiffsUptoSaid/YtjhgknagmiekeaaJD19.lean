/- joined: D6 D7 D8 -/
import Derived.Test.YtjhgknagmiekeaaJD18
import Derived.Sort.OwnSorted
import Derived.Test.YtjhgknagmiekeaaJD16
import Derived.Stop.RegionWithIn
import Derived.Laws.EntriesVeiled
import Derived.Deep.RegionHeld3
set_option linter.unusedVariables false
set_option linter.unusedSimpArgs false
namespace Go.Proofs.Ytjhgknagmiekeaa.D
open Go.RowKit Go.Lib Go.Proofs Go.Sort Go.Shelf
open Go.Proofs.YtjhgknagmiekeaaW.PrintWords hiding Kept
theorem cmp_lt : ∀ a b : List UInt8, Lib.compareBytes a b < 0 ↔ a < b
  | [], [] => by simp [Lib.compareBytes]
  | [], _ :: _ => by simp [Lib.compareBytes]
  | _ :: _, [] => by simp [Lib.compareBytes]
  | x :: a, y :: b => by
    have ih := cmp_lt a b
    unfold Lib.compareBytes
    rw [List.cons_lt_cons_iff]
    by_cases h1 : x < y
    · simp [h1]
    · by_cases h2 : y < x
      · have hne : x ≠ y := fun e => by subst e; exact absurd h2 h1
        simp [h1, h2, hne]
      · have e : x = y := UInt8.le_antisymm (UInt8.not_lt.1 h2) (UInt8.not_lt.1 h1)
        subst e
        simp [h1, ih]
def encC (x : ByteArray × Int) : List Value := [.string x.1, .int .i64 x.2]
def cfC (x y : ByteArray × Int) : Int := Lib.compareBytes x.1.data.toList y.1.data.toList
theorem ltC (x y : ByteArray × Int) : ltOf cfC x y = decide (x.1.data.toList < y.1.data.toList) := by
  unfold ltOf cfC
  rw [decide_eq_decide]
  exact cmp_lt _ _
theorem swoC : SWO (ltOf cfC) where
  irrefl x := by rw [ltC]; simp [List.lt_irrefl]
  trans x y z h1 h2 := by
    rw [ltC] at *
    simp only [decide_eq_true_eq] at *
    exact List.lt_trans h1 h2
  ntrans x y z h1 h2 := by
    rw [ltC] at *
    simp only [decide_eq_false_iff_not] at *
    exact List.le_trans (l₁ := z.1.data.toList) (l₂ := y.1.data.toList) (l₃ := x.1.data.toList) h2 h1
set_option maxRecDepth 100000 in
set_option maxHeartbeats 1600000 in
theorem closure64 (x y : ByteArray × Int) (W : World) : Calls Try.prog 109 #[.agg #[.string x.1, .int .i64 x.2], .agg #[.string y.1, .int .i64 y.2]] W fun e w' => e = .returned (.int .i64 (cfC x y)) ∧ ∃ q os', w' = grow (W.drewN q) os' := by
  have hcon := fun W' => Try.strings_Compare x.1 y.1 W'
  unfold cfC
  generalize Lib.compareBytes x.1.data.toList y.1.data.toList = r at hcon ⊢
  go_enter Try.func109, Try.ntmps109
  go_wp2_with (go_at_call 110; refine (hcon _).mono ?_; rintro e w' ⟨rfl, rfl⟩)
  go_ret
  exact ⟨rfl, 0, _, by rw [alloc_eq_grow, alloc_eq_grow, grow_grow]; rfl⟩
theorem cmpLays64 (blk off size : Nat) (w : World) : CmpLays Try.prog 109 #[] encC 2 cfC blk off size w :=
  fun _ _ _ _ x y => closure64 x y _
theorem holds_flat {w : World} {g : Nat} {cur : Array Value} {e : TypeId} {F : Array Value} (hb : w.heap[g]? = some (.cells cur e (0, 0))) (ht : cur.toList.take F.size = F.toList) : Holds id w g 0 F := by
  intro j hj
  refine ⟨?_, by simp [World.frozen?, hb]⟩
  have h1 : (cur.toList.take F.size)[j]? = F.toList[j]? := by rw [ht]
  rw [List.getElem?_take_of_lt hj] at h1
  simp only [World.cell?, hb, Nat.zero_add]
  simp only [Option.isSome_none, Bool.false_eq_true, if_false]
  rw [← Array.getElem?_toList, h1]
  simp [hj]
theorem heap_flat {w : World} {g n : Nat} {os : Array Obj} {cur : Array Value} {e : TypeId} {fr : Nat × Nat} (d : Array Value) (hb : w.heap[g]? = some (.cells cur e fr)) :
    (grow (putRow id (Sort.ahead w n) g 0 d) os).heap[g]? = some (.cells (putCells id 0 d cur) e fr) := by
  have hg : g < w.heap.size := (Array.getElem?_eq_some_iff.1 hb).1
  rw [heap_grow_old _ _ (by simpa using hg)]
  simp [putRow, mapBlock, Sort.ahead, Array.getElem?_modify, hb, onCells]
theorem grownBy_flat {w : World} {g n : Nat} {os : Array Obj} (d : Array Value) : w.grownBy (grow (putRow id (Sort.ahead w n) g 0 d) os) (some g) := by
  refine ⟨rfl, rfl, rfl, by simp, fun k hk hne => ?_⟩
  rw [heap_grow_old _ _ (by simpa using hk)]
  have : g ≠ k := fun e => hne (by rw [e])
  simp [putRow, mapBlock, Sort.ahead, Array.getElem?_modify, this]
theorem take_flat (cur : Array Value) (F : Array Value) (h : F.size ≤ cur.size) : (putCells id 0 F cur).toList.take F.size = F.toList := by
  apply List.ext_getElem?
  intro j
  by_cases hj : j < F.size
  · rw [List.getElem?_take_of_lt hj, Array.getElem?_toList]
    simp [putCells, hj, show j < cur.size by omega]
  · rw [List.getElem?_take_eq_none (by omega), List.getElem?_eq_none (by simp; omega)]
def rowh (l : List (ByteArray × Int)) : List Value := l.flatMap encC
theorem rowh_len (l : List (ByteArray × Int)) : (rowh l).length = l.length * 2 := by
  induction l with
  | nil => rfl
  | cons x l ih => rw [show rowh (x :: l) = .string x.1 :: .int .i64 x.2 :: rowh l from rfl, List.length_cons, List.length_cons, ih, List.length_cons]; omega
theorem rowh_get : ∀ (l : List (ByteArray × Int)) (i : Nat) (h : i < l.length), (rowh l)[i * 2]? = some (.string l[i].1) ∧ (rowh l)[i * 2 + 1]? = some (.int .i64 l[i].2)
  | x :: l, 0, h => ⟨rfl, rfl⟩
  | x :: l, i + 1, h => by
    have ih := rowh_get l i (by simpa using h)
    have e : rowh (x :: l) = .string x.1 :: .int .i64 x.2 :: rowh l := rfl
    rw [e, show (i + 1) * 2 = i * 2 + 1 + 1 from by omega]
    exact ih
theorem flat_list (l : List (ByteArray × Int)) : (flatK encC 2 l.toArray).toList = rowh l := by
  apply List.ext_getElem?
  intro j
  have hsz : (flatK encC 2 l.toArray).size = l.length * 2 := by simp
  by_cases hj : j < l.length * 2
  · have hd : j / 2 < l.length := by omega
    obtain ⟨h0, h1⟩ := rowh_get l (j / 2) hd
    have hget := get_flatK encC 2 l.toArray j (by simpa using hj)
    rw [Array.getElem?_toList, Array.getElem?_eq_getElem (by rw [hsz]; exact hj)]
    rw [getElem!_pos _ j (by rw [hsz]; exact hj)] at hget
    rw [hget]
    have e2 : l.toArray[j / 2]! = l[j / 2] := by simp [hd]
    rw [e2]
    rcases Nat.mod_two_eq_zero_or_one j with hm | hm
    · rw [hm]
      have e3 : j / 2 * 2 = j := by omega
      rw [e3] at h0
      rw [h0]; rfl
    · rw [hm]
      have e3 : j / 2 * 2 + 1 = j := by omega
      rw [e3] at h1
      rw [h1]; rfl
  · rw [List.getElem?_eq_none (by rw [Array.length_toList, hsz]; omega), List.getElem?_eq_none (by rw [rowh_len]; omega)]
theorem sortOwn (w : World) (B : Nat) (v : Value) (l : List (ByteArray × Int)) (h : w.ownsRow B 104 2 v l.length (rowh l)) (hl : l.length < 4611686018427387904) :
    Calls Try.prog 108 #[v, .func (.func 109) #[] #[]] w fun e w' => e = .returned (.tuple #[]) ∧ ∃ l' : List (ByteArray × Int), l'.Perm l ∧ SortedIn (ltOf cfC) 0 l'.length l'.toArray ∧ w'.ownsRow B 104 2 v l'.length (rowh l') ∧ w.grownBy w' v.ownBlock := by
  rcases id h.2 with ⟨rfl, h0⟩ | ⟨g, cap, cur, rfl, hb, hg, hnc, hcm, hcs, ht⟩
  · refine (sortNone _ w).mono ?_
    rintro e w' ⟨rfl, rfl⟩
    have hl0 : l = [] := List.length_eq_zero_iff.1 h0
    subst hl0
    exact ⟨rfl, [], List.Perm.refl _, fun i j _ _ hj => by simp at hj, h, World.grownBy.refl _ _⟩
  · have eg : ∀ args w, (callFunc 109 args).run Try.prog w = .ok (.enter 109 args) w := enters_of Try.func109 (by kernel_rfl) rfl
    have hlt : g < w.heap.size := (Array.getElem?_eq_some_iff.1 hg).1
    have hH : HoldsK encC 2 w g 0 l.toArray := by
      refine holds_flat hg ?_
      rw [flat_list]
      have : (flatK encC 2 l.toArray).size = l.length * 2 := by simp
      rw [this]
      exact ht
    have hcon := AnyQ.slices_SortFunc Try.sortChange 2 Try.isAgg104 Try.sizeOf104 encC (fun _ => rfl) (fun x v hv => by simp [encC] at hv; rcases hv with rfl | rfl <;> rfl) cfC swoC 109 #[] g 0 cap l.toArray w eg (cmpLays64 g 0 _ w) hH hlt (by simpa using hl)
    have esz : l.toArray.size = l.length := by simp
    rw [esz] at hcon
    change Calls Try.prog 108 _ _ _ at hcon
    refine hcon.mono ?_
    rintro e w' ⟨rfl, d', n, os, hp, hs, rfl⟩
    have hsz : d'.size = l.length := by have := hp.1; simpa using this
    have hlen : d'.toList.length = l.length := by rw [Array.length_toList, hsz]
    refine ⟨rfl, d'.toList, ?_, ?_, ?_, grownBy_flat _⟩
    · have h3 := hp.2.2
      simpa [Array.extract_eq_self_of_le, hsz] using h3
    · rw [hlen]
      simpa using hs
    · rw [hlen]
      have hfl : (flatK encC 2 d').toList = rowh d'.toList := by have := flat_list d'.toList; simpa using this
      refine ⟨by rw [rowh_len, hlen], .inr ⟨g, cap, _, rfl, hb, heap_flat _ hg, hnc, hcm, by simp [putCells, hcs], ?_⟩⟩
      have h4 : (flatK encC 2 d').size = l.length * 2 := by simp [hsz]
      have h5 := take_flat cur (flatK encC 2 d') (by rw [h4, hcs]; exact Nat.mul_le_mul_right _ hnc)
      rw [h4, hfl] at h5
      exact h5
end Go.Proofs.Ytjhgknagmiekeaa.D
set_option linter.unusedVariables false
set_option linter.unusedSimpArgs false
namespace Go.Proofs.Ytjhgknagmiekeaa.D
open Go.RowKit Go.Lib Go.Proofs Go.Sort Go.Shelf
open Go.Proofs.Ytjhgknagmiekeaa.T Go.Proofs.Ytjhgknagmiekeaa.V Go.Proofs.Ytjhgknagmiekeaa.N
open Go.Proofs.YtjhgknagmiekeaaW.PrintWords hiding blk_cell Kept
attribute [local go_sem] Oper.semAt_some
theorem info83 : (Try.prog.info? 104).map (fun i => (i.zero, i.size, i.bytes)) = some (some (.agg #[.string ⟨#[]⟩, .int .i64 0]), 2, 24) := by kernel_rfl
theorem rowh_snoc (l : List (ByteArray × Int)) (x : ByteArray × Int) : rowh (l ++ [x]) = rowh l ++ [.string x.1, .int .i64 x.2] := by simp [rowh, encC]
theorem row_below {w w' : World} {base : Nat} {e : TypeId} {size n : Nat} {v : Value} {xs : List Value} (h : w.ownsRow base e size v n xs) (hb : Below w.heap.size w w') : w'.ownsRow base e size v n xs :=
 own_move h (fun k hk => by
  obtain ⟨cs, hc⟩ := own_typed h k hk
  exact hb.block k (Array.getElem?_eq_some_iff.1 hc).1)
theorem box_below {w w' : World} {b : Nat} {t : TypeId} {v : Value} (h : Boxed w b t v) (hb : Below w.heap.size w w') : Boxed w' b t v :=
 (hb.block b (Array.getElem?_eq_some_iff.1 h).1).trans h
theorem appendedM {W w1 : World} {n₁ N B : Nat} {t e : TypeId} {size : Nat} {v v' : Value} {k m : Nat} {xs ys : List Value} {tmp : Obj} {M : Nat → Prop} (ht : t ≠ 60) (he : e ≠ 60)
  (hv : Boxed W B t v) (hrow : W.ownsRow n₁ e size v k xs) (hown' : w1.ownsRow n₁ e size v' m ys) (hgrow : (W.alloc tmp).grownBy w1 v.ownBlock) (hM : M B) (hMr : ∀ j, j < N → n₁ ≤ j → (∃ cs, W.heap[j]? = some (.cells cs e (0, 0))) → M j) :
  KpM N M W (w1.setCell ⟨B, 0, none⟩ v') := by
 have hF := appendedF hv hrow hown' hgrow
 refine ⟨?_, fun j o h h1 h2 => ?_, fun j cs fr h => ?_⟩
 ·have h1 := hgrow.size
  have h2 := (grownBy_setCell' w1 B v').size
  rw [World.size_alloc] at h1
  omega
 ·refine (hF j (Array.getElem?_eq_some_iff.1 h).1 (fun e9 => h2 (by rw [e9]; exact hM)) (fun e9 => ?_)).trans h
  exact h2 (hMr j h1 (own_base hrow j e9.symm) (own_typed hrow j e9.symm))
 ·refine (hF j (Array.getElem?_eq_some_iff.1 h).1 (fun e9 => ?_) (fun e9 => ?_)).trans h
  ·subst e9
   rw [show W.heap[j]? = _ from hv] at h
   injection h with h1
   injection h1 with _ h2 _
   exact ht h2
  ·obtain ⟨cs', hc⟩ := own_typed hrow j e9.symm
   rw [hc] at h
   injection h with h1
   injection h1 with _ h2 _
   exact he h2
theorem ownT_oldM {β : Type} (W0 : World) (M : Nat → Prop) : OwnT W0.heap.size (fun (_ : β) W => ∀ k, k < W0.heap.size → ¬ M k → W.heap[k]? = W0.heap[k]?) := fun s X Y row hs hg hr k h1 h2 => by
 have h3 := hs k h1 h2
 have h4 : W0.heap[k]? = some W0.heap[k] := Array.getElem?_eq_getElem h1
 rw [h4] at h3 ⊢
 exact keep_old hg (fun r e => (hr r e).1) h1 h3
theorem leaves_cells {F : Fence} {n : Nat} {P : Program} {fn : Func} {tmps : Array Value} {R : Ending → World → Prop} {b : Nat} : ∀ (ds : List Nat) (W : World), b ≤ W.heap.size → (∀ D ∈ ds, W.heap[D]? = some (.deferred (some []))) → ds.Nodup → (∀ D ∈ ds, b ≤ D) →
  (∀ W', Below b W W' → (∀ (k : Nat) (cs : Array Value) (t : TypeId) (fr : Nat × Nat), W.heap[k]? = some (Obj.cells cs t fr) → W'.heap[k]? = some (Obj.cells cs t fr)) → LeavesIn F n P fn tmps R [] .returning W') → LeavesInM F n P fn tmps R (ds.map mk_) .returning W
 | [], W, hW, _, _, _, h => h W (Below.refl _ _) (fun _ _ _ _ h => h)
 | D :: ds, W, hW, h1, h2, h3, h => by
  have hD := h1 D (by simp)
  have hb : Below b W (W.putObj D (.deferred none)) := (Below.refl b W).grown (grownBy_putObj' W D _) hW (fun k e => by cases e; exact h3 D (by simp))
  refine ⟨by simp, .inl ⟨D, _, rfl, run_takeDeferred hD, ?_⟩⟩
  refine leaves_cells ds _ (Nat.le_trans hW hb.size) (fun D' hD' => ?_) (List.nodup_cons.1 h2).2 (fun D' hD' => h3 D' (by simp [hD'])) (fun W' hW' hc' => h W' (hb.trans hW') (fun k cs t fr hk => hc' k cs t fr ?_))
  ·have hne : D' ≠ D := fun e => (List.nodup_cons.1 h2).1 (by rw [← e]; exact hD')
   exact (World.putObj_heap_other hne).trans (h1 D' (by simp [hD']))
  ·have hne : k ≠ D := fun e => by subst e; rw [hD] at hk; cases hk
   exact (World.putObj_heap_other hne).trans hk
def stepA (rb : Nd) (x : ByteArray × Int) : List (ByteArray × Int) := match valT rb (L x.1) with
 | none => [(x.1, 2)]
 | some v => if valI v = x.2 then [] else [(x.1, 3)]
def stepB (ra : Nd) (x : ByteArray × Int) : List (ByteArray × Int) := match valT ra (L x.1) with
 | none => [(x.1, 1)]
 | some _ => []
def chA (rb : Nd) (l : List (ByteArray × Int)) : List (ByteArray × Int) := l.flatMap (stepA rb)
def chB (ra : Nd) (l : List (ByteArray × Int)) : List (ByteArray × Int) := l.flatMap (stepB ra)
theorem chA_snoc (rb : Nd) (l : List (ByteArray × Int)) (x : ByteArray × Int) : chA rb (l ++ [x]) = chA rb l ++ stepA rb x := by simp [chA]
theorem chB_snoc (rb : Nd) (l : List (ByteArray × Int)) (x : ByteArray × Int) : chB rb (l ++ [x]) = chB rb l ++ stepB rb x := by simp [chB]
theorem stepA_len (rb : Nd) (x : ByteArray × Int) : (stepA rb x).length ≤ 1 := by
 unfold stepA
 split
 ·simp
 ·split <;> simp
theorem stepB_len (rb : Nd) (x : ByteArray × Int) : (stepB rb x).length ≤ 1 := by
 unfold stepB
 split <;> simp
theorem chA_len (rb : Nd) : ∀ l, (chA rb l).length ≤ l.length
 | [] => Nat.le_refl _
 | x :: l => by
  have h1 := stepA_len rb x
  have h2 := chA_len rb l
  rw [show chA rb (x :: l) = stepA rb x ++ chA rb l from rfl, List.length_append, List.length_cons]
  omega
theorem chB_len (rb : Nd) : ∀ l, (chB rb l).length ≤ l.length
 | [] => Nat.le_refl _
 | x :: l => by
  have h1 := stepB_len rb x
  have h2 := chB_len rb l
  rw [show chB rb (x :: l) = stepB rb x ++ chB rb l from rfl, List.length_append, List.length_cons]
  omega
def walkL (r : Nd) : List (ByteArray × Int) := ovr (fun _ => false) (fun _ => true) ⟨#[]⟩ r
def diffL (ra rb : Nd) : List (ByteArray × Int) := chA rb (walkL ra) ++ chB ra (walkL rb)
set_option maxRecDepth 100000 in
set_option maxHeartbeats 8000000 in
theorem diffC (ta tb : Nat) (ra rb : Nd) (w : World) (ht : Tr w ta ra) (hu : Tr w tb rb) (hsm : ∀ r, valT ra r ≠ none ∨ valT rb r ≠ none → r.length < 4000000000000) (hfew : (All ra).length + (All rb).length < 4000000000000) :
  Calls Try.prog 67 #[ptr ta, ptr tb] w fun e w' => ∃ v, e = .returned v ∧ (∃ l : List (ByteArray × Int), l.Perm (diffL ra rb) ∧ SortedIn (ltOf cfC) 0 l.length l.toArray ∧ w'.ownsRow w.heap.size 104 2 v l.length (rowh l)) ∧ Below w.heap.size w w' := by
 refine callsIn_wide.1 (show CallsIn Fence.wide 9 Try.prog 67 _ w _ from ?_)
 have qf := Aside0.mk (fun t w1 => show CallsIn Fence.wide 8 Try.prog 26 _ w1 _ from callsIn_wide.2 (allC t w1))
 have H1 := Aside0.mk (And.intro ht hu)
 have HS := Aside0.mk hsm
 have HN := Aside0.mk hfew
 have hla : (walkL ra).length = (All ra).length := ovr_len ht.fine.toGood
 have hlb : (walkL rb).length = (All rb).length := ovr_len hu.fine.toGood
 have HL := Aside0.mk (And.intro hla hlb)
 clear ht hu hsm hfew hla hlb
 unfold ptr at qf ⊢
 refine callsIn_of_wp_marks Try.func67 rfl trivial ?_ rfl
 simp only [Try.ntmps67, List.size_toArray, List.length_cons, List.length_nil, Nat.reduceAdd, Nat.reduceSub, Array.replicate_succ, Array.replicate_zero, List.push_toArray, List.append_toArray, List.nil_append, List.cons_append]
 gi_wp2_with (refine ⟨trivial, ?_⟩; gi_at_call 26; refine (qf.out _ _).mono ?_; rintro e w2 ⟨bt, bs, bk, rfl, h1, h2, h3, h4⟩; have H2 := Aside0.mk (And.intro h1 (And.intro h2 (And.intro h3 h4))); clear h1 h2 h3 h4)
 obtain ⟨h1, h2, h3, h4⟩ := H2.out
 have hsz : (((w.alloc (.cells #[.pointer (some ⟨ta, 0, none⟩)] 24)).alloc (.cells #[.pointer (some ⟨tb, 0, none⟩)] 24)).alloc (.cells #[.slice none 0 0] 101)).heap.size = w.heap.size + 3 := by simp
 rw [hsz] at h4
 have hsz2 := h4.size
 rw [hsz] at hsz2
 have bB : w2.heap[w.heap.size + 1]? = some (.cells #[.pointer (some ⟨tb, 0, none⟩)] 24 (0, 0)) := by
  refine (h4.block _ (by omega)).trans ((Below.heap_alloc _ _ _ (by simp)).trans ?_)
  have := World.alloc_heap_new (w.alloc (.cells #[.pointer (some ⟨ta, 0, none⟩)] 24)) (.cells #[.pointer (some ⟨tb, 0, none⟩)] 24)
  rwa [World.size_alloc] at this
 have bA : w2.heap[w.heap.size]? = some (.cells #[.pointer (some ⟨ta, 0, none⟩)] 24 (0, 0)) := by
  refine (h4.block _ (by omega)).trans ((Below.heap_alloc _ _ _ (by simp; omega)).trans ((Below.heap_alloc _ _ _ (by simp)).trans ?_))
  exact World.alloc_heap_new w _
 have bO : Boxed w2 (w.heap.size + 1 + 1) 101 (.slice none 0 0) := by
  refine (h4.block _ (by omega)).trans ?_
  have := World.alloc_heap_new ((w.alloc (.cells #[.pointer (some ⟨ta, 0, none⟩)] 24)).alloc (.cells #[.pointer (some ⟨tb, 0, none⟩)] 24)) (.cells #[.slice none 0 0] 101)
  rwa [World.size_alloc, World.size_alloc] at this
 have hw2 : Below w.heap.size w w2 := (((Below.refl _ w).alloc (Nat.le_refl _) _).alloc (by simp) _).alloc (by simp; omega) _ |>.trans (h4.mono (by omega))
 clear hsz h4
 obtain ⟨i0, hi0, hz0, hz1, hz2⟩ := info_parts info83
 have hml : 4000000000001 ≤ maxLen := by decide
 refine wpIn_rangeFuncO rfl (by decide) (gf := 117) (lb := #[ptr bt, ptr bs, ptr bk]) rfl trivial (enters_of Try.func117 (by kernel_rfl) rfl)
  (VOA.seq w2 8 (ovr (fun _ => false) (fun _ => true) ⟨#[]⟩ ra).length w2.heap.size (fun k => k = w.heap.size + 1 + 1) w (Kept.of hw2) (by omega) (Nat.le_refl _) (fun k hk e => by omega) ta ra H1.out.1 bt bs bk ⟨h1, h2, h3⟩ (Nat.le_refl _))
  (fun h k => kpT h k) (fun W o o' h hc => KpM.putObj W _ o o' (by omega) h hc) (Below.refl _ _) (fun _ => rfl)
  (fun (pre : List (ByteArray × Int)) W => (∃ v, Boxed W (w.heap.size + 1 + 1) 101 v ∧ W.ownsRow w2.heap.size 104 2 v (chA rb pre).length (rowh (chA rb pre))) ∧ (∀ k, k < w2.heap.size → ¬ (k = w.heap.size + 1 + 1) → W.heap[k]? = w2.heap[k]?) ∧ Below w.heap.size w W ∧ w2.heap.size ≤ W.heap.size)
  (fun _ _ _ => False) ?hI (fun _ _ _ _ _ hs _ _ => hs) ⟨⟨_, bO, World.ownsRow_nil _ _ _ _⟩, fun _ _ _ => rfl, hw2, Nat.le_refl _⟩ (fun (x : ByteArray × Int) a' (Z : World) => a' = { tmps := #[.pointer (some ⟨ta, 0, none⟩), .pointer (some ⟨tb, 0, none⟩), .pointer (some ⟨w.heap.size, 0, none⟩), .pointer (some ⟨w.heap.size + 1, 0, none⟩), .slice none 0 0, .pointer (some ⟨w.heap.size + 1 + 1, 0, none⟩), .string x.1, .int .i64 x.2, undef, undef, undef, undef, undef, .pointer (some ⟨ta, 0, none⟩), .func (.func 117) #[] #[.pointer (some ⟨bt, 0, none⟩), .pointer (some ⟨bs, 0, none⟩), .pointer (some ⟨bk, 0, none⟩)], .string x.1, .int .i64 x.2, undef, undef, undef, undef, undef, undef, undef, undef, undef, undef, undef, undef, undef, undef, undef, undef, undef, undef, undef, undef, undef, undef, undef, undef, undef, undef, undef, undef, undef, undef, undef, undef, undef, undef, undef, undef, undef, undef, undef, undef, undef], defers := [] }) (fun x a' => ?hAx) ?assign ?body ?done ?stop
 case hI =>
  exact OwnT.and (fun s X Y row hs hg hr => (ownT_all (β := Unit) (B := w2.heap.size) (fun v => OwnT.and (ownT_old (w.heap.size + 1 + 1) (fun _ => .cells #[v] 101 (0, 0)) (by omega)) (ownT_row w2.heap.size 104 2 (by decide) v (chA rb s).length (rowh (chA rb s))))) () X Y row hs hg hr) (OwnT.and (ownT_oldM w2 _) (OwnT.and (ownT_below (Nat.le_refl _) (by omega)) (ownT_size _)))
 case hAx => exact fun _ _ _ _ hs _ _ => hs
 case assign =>
  intro l' m' pre x Wa' K hI hok hK
  gi_wp2
  exact hK _ _ (KeepsU.refl _ _) (KpM.of (Below.refl _ _)) hI rfl
 case body =>
  rintro l' m' pre x a' W hl' hr0 hszW ⟨⟨v, hv, hrow⟩, hold, hB, hW⟩ rfl hlt hok
  have hx := ovr_val H1.out.1.fine.toGood H1.out.1.vals (hok.subset (List.mem_append_right _ (List.mem_singleton.2 rfl)))
  have hks : x.1.size < 4000000000000 := by have := HS.out (L x.1) (.inl (by rw [hx]; simp)); rwa [L_len] at this
  have q := getC W tb rb (H1.out.2.keep (Kept.of hB)) x.1 hks
  have hvr : ∀ v, valT rb (L x.1) = some v → ∃ y, v = .int .i64 y := fun v hv => by
   unfold valT at hv
   obtain ⟨l, hl, rfl⟩ := Option.map_eq_some_iff.1 hv
   exact H1.out.2.vals _ _ hl
  have hln : (chA rb pre).length < 4000000000000 := by
   have := chA_len rb pre
   have h8 := hok.length_le
   rw [List.length_append] at h8
   have h9 : (ovr (fun _ => false) (fun _ => true) ⟨#[]⟩ ra).length = (All ra).length := HL.out.1
   have := HN.out
   omega
  have y0 : W.cell? ⟨w.heap.size + 1, 0, none⟩ = some (.pointer (some ⟨tb, 0, none⟩)) := by rw [blk_cell ((hold _ (by omega) (by omega)).trans bB)]; rfl
  have HE := Aside0.mk (And.intro hold (And.intro hB (And.intro hW (And.intro hv hrow))))
  rcases hval : valT rb (L x.1) with _ | vv
  ·rw [hval] at q
   have hsA := Aside0.mk (show stepA rb x = [(x.1, 2)] from by unfold stepA; rw [hval])
   have Q := Aside0.mk (show Calls Try.prog 35 #[.pointer (some ⟨tb, 0, none⟩), .string x.1] W fun e w' => e = .returned (.tuple #[.int .i64 0, .bool false]) ∧ Below W.heap.size W w' from q)
   clear q hx hks hvr hval hold hB hW hv hrow
   gi_wp2_with (refine ⟨trivial, (fun h => by cases h), ?_⟩; gi_at_call 35; refine (CallsIn.inRound l' (callsIn_wide.2 Q.out)).mono ?_; rintro e W3 ⟨rfl, hb3⟩; have HB3 := Aside0.mk hb3; clear hb3; refine Hid.out ?_)
   refine Lib.hid ?_
   have HR3 : Aside0 (Boxed W3 (w.heap.size + 1 + 1) 101 v ∧ W3.ownsRow w2.heap.size 104 2 v (chA rb pre).length (rowh (chA rb pre))) := ⟨box_below HE.out.2.2.2.1 HB3.out, row_below HE.out.2.2.2.2 HB3.out⟩
   have hW3 : w2.heap.size ≤ W3.heap.size := Nat.le_trans HE.out.2.2.1 HB3.out.size
   have hc := HR3.out.1.cell
   clear y0
   gi_wp2_with (gi_at_builtin; refine wpListIn_append_own _ rfl _ _ 101 rfl w2.heap.size 104 i0 (.agg #[.string ⟨#[]⟩, .int .i64 0]) 2 24 Try.underlying101 hi0 hz0 hz1 hz2 rfl (by decide) _ _ _ rfl (HR3.out.2.alloc _) ⟨W3.heap.size, 0, none⟩ 1 1 [.string x.1, .int .i64 2] rfl rfl (cell_two_new _ _ _ _) (by simp [Value.oneCell']) (by omega) (by omega) (by simp; omega) ?_; intro v' w1' hown' hgrow _; obtain ⟨g', cap', rfl⟩ := ownsRow_succ hown'; obtain ⟨hv1, hv2, hr2, hk2, hb2, hkp, hlow⟩ := appended2 (n₀ := w.heap.size) (M := fun k => k = w.heap.size + 1 + 1) HR3.out.1 (by decide) (by decide) (by decide) HR3.out.2 (by omega) (by omega) (by omega) rfl hown' hgrow;  have hku := appendedU (B' := w2.heap.size) (by unfold Quiet; decide) (by omega) HR3.out.1 HR3.out.2 hown' hgrow; have hc1 := hv1.cell; have hf1 := hv1.frozen)
   have hb3 := HB3.out
   refine ⟨(KeepsU.of hb3).trans hku, (KpM.of hb3).trans hkp, ⟨_, hv2, ?_⟩, fun k hk1 hk2 => ?_, (belowAt HE.out.2.1 hb3).trans hb2, Nat.le_trans hW3 hb2.size⟩
   ·rw [chA_snoc, hsA.out, List.length_append, rowh_snoc]; exact hr2
   ·exact (hlow k hk1 hk2).trans ((hb3.block k (by have := HE.out.2.2.1; omega)).trans (HE.out.1 k hk1 hk2))
  ·obtain ⟨y, rfl⟩ := hvr _ hval
   rw [hval] at q
   have Q := Aside0.mk (show Calls Try.prog 35 #[.pointer (some ⟨tb, 0, none⟩), .string x.1] W fun e w' => e = .returned (.tuple #[.int .i64 y, .bool true]) ∧ Below W.heap.size W w' from q)
   by_cases hxy : y = x.2
   ·subst hxy
    have hsA := Aside0.mk (show stepA rb x = [] from by unfold stepA; rw [hval]; exact if_pos rfl)
    clear q hx hks hvr hval hold hB hW hv hrow
    gi_wp2_with (refine ⟨trivial, (fun h => by cases h), ?_⟩; gi_at_call 35; refine (CallsIn.inRound l' (callsIn_wide.2 Q.out)).mono ?_; rintro e W3 ⟨rfl, hb3⟩; have HB3 := Aside0.mk hb3; clear hb3; refine Hid.out ?_)
    refine Lib.hid ?_
    gi_wp2_with fail
    have hb3 := HB3.out
    refine ⟨KeepsU.of hb3, KpM.of hb3, ⟨_, box_below HE.out.2.2.2.1 hb3, ?_⟩, fun k hk1 hk2 => ?_, belowAt HE.out.2.1 hb3, Nat.le_trans HE.out.2.2.1 hb3.size⟩
    ·rw [chA_snoc, hsA.out, List.append_nil]; exact row_below HE.out.2.2.2.2 hb3
    ·exact (hb3.block k (by have := HE.out.2.2.1; omega)).trans (HE.out.1 k hk1 hk2)
   ·have hsA := Aside0.mk (show stepA rb x = [(x.1, 3)] from by unfold stepA; rw [hval]; exact if_neg hxy)
    have hxy1 : (x.2 == y) = false := by simpa using fun e => hxy e.symm
    have hxy2 : ¬ x.2 = y := fun e => hxy e.symm
    clear q hx hks hvr hval hold hB hW hv hrow
    gi_wp2_with (refine ⟨trivial, (fun h => by cases h), ?_⟩; gi_at_call 35; refine (CallsIn.inRound l' (callsIn_wide.2 Q.out)).mono ?_; rintro e W3 ⟨rfl, hb3⟩; have HB3 := Aside0.mk hb3; clear hb3; refine Hid.out ?_)
    refine Lib.hid ?_
    have HR3 : Aside0 (Boxed W3 (w.heap.size + 1 + 1) 101 v ∧ W3.ownsRow w2.heap.size 104 2 v (chA rb pre).length (rowh (chA rb pre))) := ⟨box_below HE.out.2.2.2.1 HB3.out, row_below HE.out.2.2.2.2 HB3.out⟩
    have hW3 : w2.heap.size ≤ W3.heap.size := Nat.le_trans HE.out.2.2.1 HB3.out.size
    have hc := HR3.out.1.cell
    clear y0
    gi_wp2_with (gi_at_builtin; refine wpListIn_append_own _ rfl _ _ 101 rfl w2.heap.size 104 i0 (.agg #[.string ⟨#[]⟩, .int .i64 0]) 2 24 Try.underlying101 hi0 hz0 hz1 hz2 rfl (by decide) _ _ _ rfl (HR3.out.2.alloc _) ⟨W3.heap.size, 0, none⟩ 1 1 [.string x.1, .int .i64 3] rfl rfl (cell_two_new _ _ _ _) (by simp [Value.oneCell']) (by omega) (by omega) (by simp; omega) ?_; intro v' w1' hown' hgrow _; obtain ⟨g', cap', rfl⟩ := ownsRow_succ hown'; obtain ⟨hv1, hv2, hr2, hk2, hb2, hkp, hlow⟩ := appended2 (n₀ := w.heap.size) (M := fun k => k = w.heap.size + 1 + 1) HR3.out.1 (by decide) (by decide) (by decide) HR3.out.2 (by omega) (by omega) (by omega) rfl hown' hgrow;  have hku := appendedU (B' := w2.heap.size) (by unfold Quiet; decide) (by omega) HR3.out.1 HR3.out.2 hown' hgrow; have hc1 := hv1.cell; have hf1 := hv1.frozen)
    have hb3 := HB3.out
    refine ⟨(KeepsU.of hb3).trans hku, (KpM.of hb3).trans hkp, ⟨_, hv2, ?_⟩, fun k hk1 hk2 => ?_, (belowAt HE.out.2.1 hb3).trans hb2, Nat.le_trans hW3 hb2.size⟩
    ·rw [chA_snoc, hsA.out, List.length_append, rowh_snoc]; exact hr2
    ·exact (hlow k hk1 hk2).trans ((hb3.block k (by have := HE.out.2.2.1; omega)).trans (HE.out.1 k hk1 hk2))
 case stop =>
  rintro D cd pre W _ _ h _
  exact h.elim
 case done =>
  rintro D1 ys W1 hD1 e9 ⟨⟨v1, hv1, hrow1⟩, hold1, hB1, hW1⟩ hK1
  have y1 : W1.cell? ⟨w.heap.size + 1, 0, none⟩ = some (.pointer (some ⟨tb, 0, none⟩)) := by rw [blk_cell ((hold1 _ (by omega) (by omega)).trans bB)]; rfl
  have HE := Aside0.mk (And.intro hv1 (And.intro hrow1 (And.intro hold1 (And.intro hB1 (And.intro hW1 (And.intro hK1 (And.intro hD1 e9)))))))
  clear hv1 hrow1 hold1 hB1 hW1 hK1 e9 h1 h2 h3
  gi_wp2_with (refine ⟨trivial, ?_⟩; gi_at_call 26; refine (qf.out tb W1).mono ?_; rintro e w3 ⟨bt2, bs2, bk2, rfl, h1, h2, h3, h4⟩; have H3 := Aside0.mk (And.intro h1 (And.intro h2 (And.intro h3 h4))); clear h1 h2 h3 h4)
  obtain ⟨h1, h2, h3, h4⟩ := H3.out
  obtain ⟨hv1, hrow1, hold1, hB1, hW1, hK1, hD1, e9⟩ := HE.out
  have hsz3 := h4.size
  have hvw := box_below hv1 h4
  have hroww := row_below hrow1 h4
  have cD : w3.heap[D1]? = some (.deferred (some [])) := (h4.block _ (Array.getElem?_eq_some_iff.1 hK1).1).trans hK1
  have cA : w3.heap[w.heap.size]? = some (.cells #[.pointer (some ⟨ta, 0, none⟩)] 24 (0, 0)) := (h4.block _ (by omega)).trans ((hold1 _ (by omega) (by omega)).trans bA)
  have hw3 : Below w.heap.size w w3 := belowAt hB1 h4
  have hlD := (Array.getElem?_eq_some_iff.1 cD).1
  obtain ⟨zs, hzs⟩ : ∃ zs, chA rb ys = zs := ⟨_, rfl⟩
  have hzl : zs.length ≤ (All ra).length := by
   rw [← hzs, e9]
   have := chA_len rb (ovr (fun _ => false) (fun _ => true) ⟨#[]⟩ ra)
   have h9 : (ovr (fun _ => false) (fun _ => true) ⟨#[]⟩ ra).length = (All ra).length := HL.out.1
   omega
  rw [hzs] at hroww
  clear h4 hv1 hrow1 hold1 hB1
  obtain ⟨M3, hM3⟩ : ∃ M : Nat → Prop, M = fun k => k = (w.heap.size + 1 + 1) ∨ (w2.heap.size ≤ k ∧ ∃ cs, w3.heap[k]? = some (.cells cs 104 (0, 0))) := ⟨_, rfl⟩
  have m1 : ∀ k, k < w2.heap.size → k ≠ (w.heap.size + 1 + 1) → ¬ M3 k := by
   intro k h1 h2 h3
   rw [hM3] at h3
   rcases h3 with h3 | h3
   ·omega
   ·omega
  have m2 : M3 (w.heap.size + 1 + 1) := by rw [hM3]; exact .inl rfl
  have m3 : ∀ (k : Nat) (o : Obj), w3.heap[k]? = some o → k ≠ (w.heap.size + 1 + 1) → (∀ cs, o ≠ .cells cs 104 (0, 0)) → ¬ M3 k := by
   intro k o h1 h2 h3
   rw [hM3]
   rintro (h | ⟨-, cs, h⟩)
   ·exact h2 h
   ·rw [h1] at h
    exact h3 cs (Option.some.inj h)
  have m4 : ∀ W : World, (∀ k, k < w3.heap.size → ¬ M3 k → W.heap[k]? = w3.heap[k]?) → ∀ j, j < w3.heap.size → w2.heap.size ≤ j → (∃ cs, W.heap[j]? = some (.cells cs 104 (0, 0))) → M3 j := by
   rintro W h j h1 h2 ⟨cs, h3⟩
   by_cases hm : M3 j
   ·exact hm
   ·rw [hM3]
    exact .inr ⟨h2, cs, by rw [← h j h1 hm]; exact h3⟩
  have HM3 := Aside0.mk hM3
  clear hM3
  refine wpIn_rangeFuncO rfl (by decide) (gf := 117) (lb := #[ptr bt2, ptr bs2, ptr bk2]) rfl trivial (enters_of Try.func117 (by kernel_rfl) rfl)
   (VOA.seq w3 8 (ovr (fun _ => false) (fun _ => true) ⟨#[]⟩ rb).length w3.heap.size M3 w (Kept.of hw3) hw3.size (Nat.le_refl _) (fun k hk => m1 k (by omega) (by omega)) tb rb H1.out.2 bt2 bs2 bk2 ⟨h1, h2, h3⟩ (Nat.le_refl _))
   (fun h k => kpT h k) (fun W o o' h hc => KpM.putObj W _ o o' (by omega) h hc) (Below.refl _ _) (fun _ => rfl)
   (fun (pre : List (ByteArray × Int)) W => (∃ v, Boxed W (w.heap.size + 1 + 1) 101 v ∧ W.ownsRow w2.heap.size 104 2 v (zs ++ chB ra pre).length (rowh (zs ++ chB ra pre))) ∧ (∀ k, k < w3.heap.size → ¬ M3 k → W.heap[k]? = w3.heap[k]?) ∧ Below w.heap.size w W ∧ w3.heap.size ≤ W.heap.size)
   (fun _ _ _ => False) ?hI2 (fun _ _ _ _ _ hs _ _ => hs) ⟨⟨_, hvw, by rw [show chB ra [] = [] from rfl, List.append_nil]; exact hroww⟩, fun _ _ _ => rfl, hw3, Nat.le_refl _⟩ (fun (x : ByteArray × Int) a' (Z : World) => a' = { tmps := #[.pointer (some ⟨ta, 0, none⟩), .pointer (some ⟨tb, 0, none⟩), .pointer (some ⟨w.heap.size, 0, none⟩), .pointer (some ⟨w.heap.size + 1, 0, none⟩), .slice none 0 0, .pointer (some ⟨w.heap.size + 1 + 1, 0, none⟩), undef, undef, undef, undef, .string x.1, undef, undef, .pointer (some ⟨ta, 0, none⟩), .func (.func 117) #[] #[.pointer (some ⟨bt, 0, none⟩), .pointer (some ⟨bs, 0, none⟩), .pointer (some ⟨bk, 0, none⟩)], undef, undef, undef, undef, undef, undef, undef, undef, undef, undef, undef, undef, undef, undef, undef, undef, undef, undef, undef, undef, undef, undef, undef, .pointer (some ⟨tb, 0, none⟩), .func (.func 117) #[] #[.pointer (some ⟨bt2, 0, none⟩), .pointer (some ⟨bs2, 0, none⟩), .pointer (some ⟨bk2, 0, none⟩)], .string x.1, .int .i64 x.2, undef, undef, undef, undef, undef, undef, undef, undef, undef, undef, undef, undef, undef, undef, undef, undef], defers := [] }) (fun x a' => ?hAx2) ?assign2 ?body2 ?done2 ?stop2
  case hI2 =>
   exact OwnT.and (fun s X Y row hs hg hr => (ownT_all (β := Unit) (B := w3.heap.size) (fun v => OwnT.and (ownT_old (w.heap.size + 1 + 1) (fun _ => .cells #[v] 101 (0, 0)) (by omega)) (ownT_row w2.heap.size 104 2 (by decide) v (zs ++ chB ra s).length (rowh (zs ++ chB ra s))))) () X Y row hs hg hr) (OwnT.and (ownT_oldM w3 _) (OwnT.and (ownT_below (Nat.le_refl _) hw3.size) (ownT_size _)))
  case hAx2 => exact fun _ _ _ _ hs _ _ => hs
  case assign2 =>
   intro l' m' pre x Wa' K hI hok hK
   gi_wp2
   exact hK _ _ (KeepsU.refl _ _) (KpM.of (Below.refl _ _)) hI rfl
  case body2 =>
   rintro l' m' pre x a' W hl' hr0 hszW ⟨⟨v, hv, hrow⟩, hold, hB, hW⟩ rfl hlt hok
   have hx := ovr_val H1.out.2.fine.toGood H1.out.2.vals (hok.subset (List.mem_append_right _ (List.mem_singleton.2 rfl)))
   have hks : x.1.size < 4000000000000 := by have := HS.out (L x.1) (.inr (by rw [hx]; simp)); rwa [L_len] at this
   have q := getC W ta ra (H1.out.1.keep (Kept.of hB)) x.1 hks
   have hvr : ∀ v, valT ra (L x.1) = some v → ∃ y, v = .int .i64 y := fun v hv => by
    unfold valT at hv
    obtain ⟨l, hl, rfl⟩ := Option.map_eq_some_iff.1 hv
    exact H1.out.1.vals _ _ hl
   obtain ⟨q0, hq0⟩ : ∃ q0, zs ++ chB ra pre = q0 := ⟨_, rfl⟩
   have hln : q0.length < 4000000000000 := by
    have := chB_len ra pre
    have h8 := hok.length_le
    rw [List.length_append] at h8
    have h9 : (ovr (fun _ => false) (fun _ => true) ⟨#[]⟩ rb).length = (All rb).length := HL.out.2
    have := HN.out
    rw [← hq0, List.length_append]
    simp only [List.length_singleton] at h8
    omega
   rw [hq0] at hrow
   have y0 : W.cell? ⟨w.heap.size, 0, none⟩ = some (.pointer (some ⟨ta, 0, none⟩)) := by rw [blk_cell ((hold _ (by omega) (m1 _ (by omega) (by omega))).trans cA)]; rfl
   have HE2 := Aside0.mk (And.intro hold (And.intro hB (And.intro hW (And.intro hv hrow))))
   rcases hval : valT ra (L x.1) with _ | vv
   ·rw [hval] at q
    have hsB := Aside0.mk (show stepB ra x = [(x.1, 1)] from by unfold stepB; rw [hval])
    have Q := Aside0.mk (show Calls Try.prog 35 #[.pointer (some ⟨ta, 0, none⟩), .string x.1] W fun e w' => e = .returned (.tuple #[.int .i64 0, .bool false]) ∧ Below W.heap.size W w' from q)
    clear q hx hks hvr hval hold hB hW hv hrow
    gi_wp2_with (refine ⟨trivial, (fun h => by cases h), ?_⟩; gi_at_call 35; refine (CallsIn.inRound l' (callsIn_wide.2 Q.out)).mono ?_; rintro e W3 ⟨rfl, hb3⟩; have HB3 := Aside0.mk hb3; clear hb3; refine Hid.out ?_)
    refine Lib.hid ?_
    have HR3 : Aside0 (Boxed W3 (w.heap.size + 1 + 1) 101 v ∧ W3.ownsRow w2.heap.size 104 2 v q0.length (rowh q0)) := ⟨box_below HE2.out.2.2.2.1 HB3.out, row_below HE2.out.2.2.2.2 HB3.out⟩
    have hW3 : w3.heap.size ≤ W3.heap.size := Nat.le_trans HE2.out.2.2.1 HB3.out.size
    have hold3 : ∀ k, k < w3.heap.size → ¬ M3 k → W3.heap[k]? = w3.heap[k]? := fun k hk1 hk2 => (HB3.out.block k (by have := HE2.out.2.2.1; omega)).trans (HE2.out.1 k hk1 hk2)
    have hc := HR3.out.1.cell
    clear y0
    gi_wp2_with (gi_at_builtin; refine wpListIn_append_own _ rfl _ _ 101 rfl w2.heap.size 104 i0 (.agg #[.string ⟨#[]⟩, .int .i64 0]) 2 24 Try.underlying101 hi0 hz0 hz1 hz2 rfl (by decide) _ _ _ rfl (HR3.out.2.alloc _) ⟨W3.heap.size, 0, none⟩ 1 1 [.string x.1, .int .i64 1] rfl rfl (cell_two_new _ _ _ _) (by simp [Value.oneCell']) (by omega) (by omega) (by simp; omega) ?_; intro v' w1' hown' hgrow _; obtain ⟨g', cap', rfl⟩ := ownsRow_succ hown'; obtain ⟨hv1, hv2, hr2, hk2, hb2, hkp, hlow⟩ := appended2 (n₀ := w.heap.size) (M := M3) HR3.out.1 (by decide) (by decide) (by decide) HR3.out.2 (by omega) (by omega) (by omega) m2 hown' hgrow; have hkm := appendedM (N := w3.heap.size) (by decide) (by decide) HR3.out.1 HR3.out.2 hown' hgrow m2 (m4 W3 hold3); have hku := appendedU (B' := w3.heap.size) (by unfold Quiet; decide) (by omega) HR3.out.1 HR3.out.2 hown' hgrow; have hc1 := hv1.cell; have hf1 := hv1.frozen)
    have hb3 := HB3.out
    refine ⟨(KeepsU.of hb3).trans hku, (KpM.of hb3).trans hkm, ⟨_, hv2, ?_⟩, fun k hk1 hk2 => ?_, (belowAt HE2.out.2.1 hb3).trans hb2, Nat.le_trans hW3 hb2.size⟩
    ·rw [chB_snoc, hsB.out, ← List.append_assoc, hq0, List.length_append, rowh_snoc]; exact hr2
    ·have hk9 : k < W3.heap.size := by omega
     exact (hkm.low k _ (Array.getElem?_eq_getElem hk9) hk1 hk2).trans ((Array.getElem?_eq_getElem hk9).symm.trans (hold3 k hk1 hk2))
   ·obtain ⟨y, rfl⟩ := hvr _ hval
    rw [hval] at q
    have Q := Aside0.mk (show Calls Try.prog 35 #[.pointer (some ⟨ta, 0, none⟩), .string x.1] W fun e w' => e = .returned (.tuple #[.int .i64 y, .bool true]) ∧ Below W.heap.size W w' from q)
    have hsB := Aside0.mk (show stepB ra x = [] from by unfold stepB; rw [hval])
    clear q hx hks hvr hval hold hB hW hv hrow
    gi_wp2_with (refine ⟨trivial, (fun h => by cases h), ?_⟩; gi_at_call 35; refine (CallsIn.inRound l' (callsIn_wide.2 Q.out)).mono ?_; rintro e W3 ⟨rfl, hb3⟩; have HB3 := Aside0.mk hb3; clear hb3; refine Hid.out ?_)
    refine Lib.hid ?_
    gi_wp2_with fail
    have hb3 := HB3.out
    refine ⟨KeepsU.of hb3, KpM.of hb3, ⟨_, box_below HE2.out.2.2.2.1 hb3, ?_⟩, fun k hk1 hk2 => ?_, belowAt HE2.out.2.1 hb3, Nat.le_trans HE2.out.2.2.1 hb3.size⟩
    ·rw [chB_snoc, hsB.out, List.append_nil, hq0]; exact row_below HE2.out.2.2.2.2 hb3
    ·exact (hb3.block k (by have := HE2.out.2.2.1; omega)).trans (HE2.out.1 k hk1 hk2)
  case stop2 =>
   rintro D cd pre W _ _ h _
   exact h.elim
  case done2 =>
   rintro D2 ys2 W2 hD2 e92 ⟨⟨v, hv, hrow⟩, hold, hB2, hW2⟩ hK2
   have hd : zs ++ chB ra ys2 = diffL ra rb := by rw [← hzs, e9, e92]; rfl
   rw [hd] at hrow
   have hdl : (diffL ra rb).length < 4611686018427387904 := by
    rw [← hd, List.length_append, e92]
    have h8 := chB_len ra (ovr (fun _ => false) (fun _ => true) ⟨#[]⟩ rb)
    have h9 : (ovr (fun _ => false) (fun _ => true) ⟨#[]⟩ rb).length = (All rb).length := HL.out.2
    have := HN.out
    omega
   have z0 := hv.cell
   have qs := Aside0.mk (sortOwn W2 w2.heap.size v (diffL ra rb) hrow hdl)
   have cD2 : W2.heap[D1]? = some (.deferred (some [])) := (hold D1 hlD (m3 D1 _ cD (by omega) (fun cs e => by cases e))).trans cD
   have HF := Aside0.mk (And.intro hv (And.intro hrow (And.intro cD2 (And.intro hB2 (And.intro hK2 hD2)))))
   clear hv hrow hold cD2 hB2 hK2 e92 h1 h2 h3 hd hdl
   gi_wp2_with (refine ⟨trivial, ?_⟩; gi_at_call 108; refine (callsIn_wide.2 qs.out).mono ?_; rintro e W3 ⟨rfl, l, hp, hs, hr, hg⟩; have HG := Aside0.mk (And.intro hp (And.intro hs (And.intro hr hg))); clear hp hs hr hg; refine Hid.out ?_)
   refine Lib.hid ?_
   obtain ⟨hp, hs, hr, hg⟩ := HG.out
   obtain ⟨hv, hrow, cD2, hB2, hK2, hD2⟩ := HF.out
   have hfar : ∀ (k : Nat) (o : Obj), W2.heap[k]? = some o → (∀ cs, o ≠ .cells cs 104 (0, 0)) → W3.heap[k]? = some o := fun k o h1 h2 =>
    (hg.block k (Array.getElem?_eq_some_iff.1 h1).1 (fun e9 => by
     obtain ⟨cs', hc⟩ := own_typed hrow k e9.symm
     rw [hc] at h1
     exact h2 cs' (Option.some.inj h1).symm)).trans h1
   have hv3 : Boxed W3 (w.heap.size + 1 + 1) 101 v := hfar _ _ hv (fun cs e => by injection e with _ e2 _; cases e2)
   have z3 := hv3.cell
   have hB3 : Below w2.heap.size W2 W3 := below_grown hg (by omega) (fun k hk => own_base hrow k hk)
   have hK1' := hfar _ _ cD2 (fun cs e => by cases e)
   have hK2' := hfar _ _ hK2 (fun cs e => by cases e)
   clear z0
   gi_wp2_with fail
   refine leaves_cells (b := w.heap.size) [D2, D1] _ ?_ ?_ ?_ ?_ (fun W' hW' hC' => ?_)
   ·have := hB3.size; omega
   ·intro D hD
    rcases List.mem_cons.1 hD with rfl | hD
    ·exact hK2'
    ·rw [List.mem_singleton.1 hD]; exact hK1'
   ·simp only [List.nodup_cons, List.mem_cons, List.not_mem_nil, or_false, not_false_eq_true, List.nodup_nil, and_true]
    omega
   ·intro D hD
    rcases List.mem_cons.1 hD with rfl | hD
    ·omega
    ·rw [List.mem_singleton.1 hD]; omega
   ·refine ⟨_, results_tmp rfl _ _ _, v, rfl, ⟨l, hp, hs, own_move (own_weak hr (by omega)) (fun k hk => ?_)⟩, (hB2.trans (hB3.mono (by omega))).trans hW'⟩
    obtain ⟨cs', hc⟩ := own_typed hr k hk
    rw [hc]
    exact hC' _ _ _ _ hc
end Go.Proofs.Ytjhgknagmiekeaa.D
set_option linter.unusedVariables false
set_option linter.unusedSimpArgs false
namespace Go.Proofs.Ytjhgknagmiekeaa.D
open Go.RowKit Go.Lib Go.Proofs Go.Sort Go.Shelf
open Go.Proofs.Ytjhgknagmiekeaa.T Go.Proofs.Ytjhgknagmiekeaa.V Go.Proofs.Ytjhgknagmiekeaa.N
abbrev Kc := ByteArray × Int
def mergeL : List Kc → List Kc → List Kc
 | [], zb => zb.map fun y => (y.1, 1)
 | x :: za, [] => (x :: za).map fun x => (x.1, 2)
 | x :: za, y :: zb =>
  if L x.1 < L y.1 then (x.1, 2) :: mergeL za (y :: zb)
  else if L y.1 < L x.1 then (y.1, 1) :: mergeL (x :: za) zb
  else (if x.2 = y.2 then [] else [(x.1, 3)]) ++ mergeL za zb
termination_by a b => a.length + b.length
def RiseK (z : List Kc) : Prop := z.Pairwise fun a b => L a.1 < L b.1
def InD (za zb : List Kc) (c : Kc) : Prop :=
 (c.2 = 2 ∧ (∃ x ∈ za, x.1 = c.1) ∧ ∀ y ∈ zb, y.1 ≠ c.1) ∨ (c.2 = 1 ∧ (∃ y ∈ zb, y.1 = c.1) ∧ ∀ x ∈ za, x.1 ≠ c.1) ∨ (c.2 = 3 ∧ ∃ x ∈ za, ∃ y ∈ zb, x.1 = c.1 ∧ y.1 = c.1 ∧ x.2 ≠ y.2)
theorem lt_ne {a b : ByteArray} (h : L a < L b) : a ≠ b := fun e => by subst e; exact blt_irrefl _ h
theorem merge_low : ∀ (za zb : List Kc) (k : List UInt8), (∀ x ∈ za, k < L x.1) → (∀ y ∈ zb, k < L y.1) → ∀ c ∈ mergeL za zb, k < L c.1
 | [], zb, k, ha, hb, c, hc => by
  rw [mergeL] at hc
  obtain ⟨y, hy, rfl⟩ := List.mem_map.1 hc
  exact hb y hy
 | x :: za, [], k, ha, hb, c, hc => by
  rw [mergeL] at hc
  obtain ⟨y, hy, rfl⟩ := List.mem_map.1 hc
  exact ha y hy
 | x :: za, y :: zb, k, ha, hb, c, hc => by
  rw [mergeL] at hc
  have hx := ha x (by simp)
  have hy := hb y (by simp)
  split at hc
  ·rcases List.mem_cons.1 hc with rfl | hc
   ·exact hx
   ·exact merge_low za (y :: zb) k (fun x h => ha x (by simp [h])) hb c hc
  ·split at hc
   ·rcases List.mem_cons.1 hc with rfl | hc
    ·exact hy
    ·exact merge_low (x :: za) zb k ha (fun x h => hb x (by simp [h])) c hc
   ·rcases List.mem_append.1 hc with hc | hc
    ·split at hc
     ·cases hc
     ·rw [List.mem_singleton.1 hc]; exact hx
    ·exact merge_low za zb k (fun x h => ha x (by simp [h])) (fun x h => hb x (by simp [h])) c hc
termination_by a b => a.length + b.length
theorem merge_rise : ∀ (za zb : List Kc), RiseK za → RiseK zb → RiseK (mergeL za zb)
 | [], zb, ha, hb => by rw [mergeL]; exact List.pairwise_map.2 hb
 | x :: za, [], ha, hb => by rw [mergeL]; exact List.pairwise_map.2 ha
 | x :: za, y :: zb, ha, hb => by
  obtain ⟨a1, a2⟩ := List.pairwise_cons.1 ha
  obtain ⟨b1, b2⟩ := List.pairwise_cons.1 hb
  rw [mergeL]
  split
  ·rename_i h
   refine List.pairwise_cons.2 ⟨merge_low za (y :: zb) _ a1 (fun z hz => ?_), merge_rise za (y :: zb) a2 hb⟩
   rcases List.mem_cons.1 hz with rfl | hz
   ·exact h
   ·exact blt_trans h (b1 z hz)
  ·split
   ·rename_i h
    refine List.pairwise_cons.2 ⟨merge_low (x :: za) zb _ (fun z hz => ?_) b1, merge_rise (x :: za) zb ha b2⟩
    rcases List.mem_cons.1 hz with rfl | hz
    ·exact h
    ·exact blt_trans h (a1 z hz)
   ·rename_i h1 h2
    have e : L x.1 = L y.1 := by
     rcases blt_total (L x.1) (L y.1) with h | h | h
     ·exact absurd h h1
     ·exact h
     ·exact absurd h h2
    split
    ·exact merge_rise za zb a2 b2
    ·refine List.pairwise_cons.2 ⟨merge_low za zb _ a1 (fun z hz => ?_), merge_rise za zb a2 b2⟩
     show L x.1 < _
     rw [e]
     exact b1 z hz
termination_by a b => a.length + b.length
theorem merge_mem : ∀ (za zb : List Kc), RiseK za → RiseK zb → ∀ c, c ∈ mergeL za zb ↔ InD za zb c
 | [], zb, ha, hb, c => by
  rw [mergeL]
  unfold InD
  constructor
  ·intro h
   obtain ⟨y, hy, rfl⟩ := List.mem_map.1 h
   exact .inr (.inl ⟨rfl, ⟨y, hy, rfl⟩, fun x hx => by cases hx⟩)
  ·rintro (⟨-, ⟨x, hx, -⟩, -⟩ | ⟨h1, ⟨y, hy, h2⟩, -⟩ | ⟨-, x, hx, -⟩)
   ·cases hx
   ·exact List.mem_map.2 ⟨y, hy, by rw [h2, ← h1]⟩
   ·cases hx
 | x :: za, [], ha, hb, c => by
  rw [mergeL]
  unfold InD
  constructor
  ·intro h
   obtain ⟨y, hy, rfl⟩ := List.mem_map.1 h
   exact .inl ⟨rfl, ⟨y, hy, rfl⟩, fun x hx => by cases hx⟩
  ·rintro (⟨h1, ⟨y, hy, h2⟩, -⟩ | ⟨-, ⟨x, hx, -⟩, -⟩ | ⟨-, x, hx, y, hy, -⟩)
   ·exact List.mem_map.2 ⟨y, hy, by rw [h2, ← h1]⟩
   ·cases hx
   ·cases hy
 | x :: za, y :: zb, ha, hb, c => by
  obtain ⟨a1, a2⟩ := List.pairwise_cons.1 ha
  obtain ⟨b1, b2⟩ := List.pairwise_cons.1 hb
  have na : ∀ z ∈ za, z.1 ≠ x.1 := fun z hz e => lt_ne (a1 z hz) e.symm
  have nb : ∀ z ∈ zb, z.1 ≠ y.1 := fun z hz e => lt_ne (b1 z hz) e.symm
  rw [mergeL]
  split
  ·rename_i h
   have hyb : ∀ z ∈ y :: zb, z.1 ≠ x.1 := fun z hz e => by
    rcases List.mem_cons.1 hz with rfl | hz
    ·exact lt_ne h e.symm
    ·exact lt_ne (blt_trans h (b1 z hz)) e.symm
   rw [List.mem_cons, merge_mem za (y :: zb) a2 hb c]
   unfold InD
   constructor
   ·rintro (rfl | ⟨h1, ⟨z, hz, h2⟩, h3⟩ | ⟨h1, h2, h3⟩ | ⟨h1, z, hz, w, hw, h2⟩)
    ·exact .inl ⟨rfl, ⟨x, by simp, rfl⟩, hyb⟩
    ·exact .inl ⟨h1, ⟨z, by simp [hz], h2⟩, h3⟩
    ·refine .inr (.inl ⟨h1, h2, fun z hz => ?_⟩)
     rcases List.mem_cons.1 hz with rfl | hz
     ·obtain ⟨w, hw, e⟩ := h2
      exact fun e2 => hyb w hw (e.trans e2.symm)
     ·exact h3 z hz
    ·exact .inr (.inr ⟨h1, z, by simp [hz], w, hw, h2⟩)
   ·rintro (⟨h1, ⟨z, hz, h2⟩, h3⟩ | ⟨h1, h2, h3⟩ | ⟨h1, z, hz, w, hw, h2, h3, h4⟩)
    ·rcases List.mem_cons.1 hz with rfl | hz
     ·exact .inl (Prod.ext h2.symm h1)
     ·exact .inr (.inl ⟨h1, ⟨z, hz, h2⟩, h3⟩)
    ·exact .inr (.inr (.inl ⟨h1, h2, fun z hz => h3 z (by simp [hz])⟩))
    ·rcases List.mem_cons.1 hz with rfl | hz
     ·exact absurd (h3.trans h2.symm) (hyb w hw)
     ·exact .inr (.inr (.inr ⟨h1, z, hz, w, hw, h2, h3, h4⟩))
  ·split
   ·rename_i h
    have hxa : ∀ z ∈ x :: za, z.1 ≠ y.1 := fun z hz e => by
     rcases List.mem_cons.1 hz with rfl | hz
     ·exact lt_ne h e.symm
     ·exact lt_ne (blt_trans h (a1 z hz)) e.symm
    rw [List.mem_cons, merge_mem (x :: za) zb ha b2 c]
    unfold InD
    constructor
    ·rintro (rfl | ⟨h1, h2, h3⟩ | ⟨h1, ⟨z, hz, h2⟩, h3⟩ | ⟨h1, z, hz, w, hw, h2⟩)
     ·exact .inr (.inl ⟨rfl, ⟨y, by simp, rfl⟩, hxa⟩)
     ·refine .inl ⟨h1, h2, fun z hz => ?_⟩
      rcases List.mem_cons.1 hz with rfl | hz
      ·obtain ⟨w, hw, e⟩ := h2
       exact fun e2 => hxa w hw (e.trans e2.symm)
      ·exact h3 z hz
     ·exact .inr (.inl ⟨h1, ⟨z, by simp [hz], h2⟩, h3⟩)
     ·exact .inr (.inr ⟨h1, z, hz, w, by simp [hw], h2⟩)
    ·rintro (⟨h1, h2, h3⟩ | ⟨h1, ⟨z, hz, h2⟩, h3⟩ | ⟨h1, z, hz, w, hw, h2, h3, h4⟩)
     ·exact .inr (.inl ⟨h1, h2, fun z hz => h3 z (by simp [hz])⟩)
     ·rcases List.mem_cons.1 hz with rfl | hz
      ·exact .inl (Prod.ext h2.symm h1)
      ·exact .inr (.inr (.inl ⟨h1, ⟨z, hz, h2⟩, h3⟩))
     ·rcases List.mem_cons.1 hw with rfl | hw
      ·exact absurd (h2.trans h3.symm) (hxa z hz)
      ·exact .inr (.inr (.inr ⟨h1, z, hz, w, hw, h2, h3, h4⟩))
   ·rename_i g1 g2
    have e : x.1 = y.1 := by
     rcases blt_total (L x.1) (L y.1) with h | h | h
     ·exact absurd h g1
     ·exact T.L_inj h
     ·exact absurd h g2
    clear g1 g2
    have na' : ∀ z ∈ za, z.1 ≠ y.1 := fun z hz => e ▸ na z hz
    have nb' : ∀ z ∈ zb, z.1 ≠ x.1 := fun z hz => e ▸ nb z hz
    rw [List.mem_append, merge_mem za zb a2 b2 c]
    unfold InD
    constructor
    ·rintro (h | ⟨h1, ⟨z, hz, h2⟩, h3⟩ | ⟨h1, ⟨z, hz, h2⟩, h3⟩ | ⟨h1, z, hz, w, hw, h2⟩)
     ·split at h
      ·cases h
      ·rename_i hne
       rw [List.mem_singleton.1 h]
       exact .inr (.inr ⟨rfl, x, by simp, y, by simp, rfl, e.symm, hne⟩)
     ·refine .inl ⟨h1, ⟨z, by simp [hz], h2⟩, fun w hw => ?_⟩
      rcases List.mem_cons.1 hw with rfl | hw
      ·exact fun e2 => na' z hz (h2.trans e2.symm)
      ·exact h3 w hw
     ·refine .inr (.inl ⟨h1, ⟨z, by simp [hz], h2⟩, fun w hw => ?_⟩)
      rcases List.mem_cons.1 hw with rfl | hw
      ·exact fun e2 => nb' z hz (h2.trans e2.symm)
      ·exact h3 w hw
     ·exact .inr (.inr ⟨h1, z, by simp [hz], w, by simp [hw], h2⟩)
    ·rintro (⟨h1, ⟨z, hz, h2⟩, h3⟩ | ⟨h1, ⟨z, hz, h2⟩, h3⟩ | ⟨h1, z, hz, w, hw, h2, h3, h4⟩)
     ·rcases List.mem_cons.1 hz with rfl | hz
      ·exact absurd (e.symm.trans h2) (h3 y (by simp))
      ·exact .inr (.inl ⟨h1, ⟨z, hz, h2⟩, fun w hw => h3 w (by simp [hw])⟩)
     ·rcases List.mem_cons.1 hz with rfl | hz
      ·exact absurd (e.trans h2) (h3 x (by simp))
      ·exact .inr (.inr (.inl ⟨h1, ⟨z, hz, h2⟩, fun w hw => h3 w (by simp [hw])⟩))
     ·rcases List.mem_cons.1 hz with rfl | hz
      ·rcases List.mem_cons.1 hw with rfl | hw
       ·rw [if_neg h4]
        exact .inl (List.mem_singleton.2 (Prod.ext h2.symm h1))
       ·exact absurd (h3.trans h2.symm) (nb' w hw)
      ·rcases List.mem_cons.1 hw with rfl | hw
       ·exact absurd (h2.trans h3.symm) (na' z hz)
       ·exact .inr (.inr (.inr ⟨h1, z, hz, w, hw, h2, h3, h4⟩))
termination_by a b => a.length + b.length
theorem walk_rise {r : Nd} (h : T.Good r) : RiseK (walkL r) := by
 have h1 := all_rise h
 have h2 : ((All r).map ey).Pairwise (fun a b => a.1 < b.1) := List.pairwise_map.2 h1
 rw [← ovr_all0 h] at h2
 have h3 := List.pairwise_map.1 h2
 exact h3
theorem walk_mem {r : Nd} (h : T.Good r) (hv : IntVals r) (x : Kc) : x ∈ walkL r ↔ valT r (L x.1) = some (.int .i64 x.2) := by
 constructor
 ·exact ovr_val h hv
 ·intro e
  have h1 := (mem_ey h hv (L x.1) x.2).2 e
  rw [← ovr_all0 h] at h1
  obtain ⟨y, hy, e2⟩ := List.mem_map.1 h1
  have : y = x := ex_inj e2
  rw [← this]
  exact hy
theorem walk_none {r : Nd} (h : T.Good r) (hv : IntVals r) (k : ByteArray) : (∀ y ∈ walkL r, y.1 ≠ k) ↔ valT r (L k) = none := by
 constructor
 ·intro hn
  cases e : valT r (L k) with
  | none => rfl
  | some v =>
   unfold valT at e
   obtain ⟨l, hl, rfl⟩ := Option.map_eq_some_iff.1 e
   obtain ⟨y, ey⟩ := hv _ _ hl
   exact absurd rfl (hn (k, y) ((walk_mem h hv (k, y)).2 (by unfold valT; rw [hl, Option.map_some, ey])))
 ·intro hn y hy e
  have := ovr_val h hv hy
  rw [e, hn] at this
  cases this
theorem diff_inD {ra rb : Nd} (ha : T.Good ra) (hva : IntVals ra) (hb : T.Good rb) (hvb : IntVals rb) (c : Kc) : c ∈ diffL ra rb ↔ InD (walkL ra) (walkL rb) c := by
 have hri : ∀ {r : Nd}, IntVals r → ∀ q v, valT r q = some v → ∃ y, v = .int .i64 y := fun hv q v h => by
  unfold valT at h
  obtain ⟨l, hl, rfl⟩ := Option.map_eq_some_iff.1 h
  exact hv _ _ hl
 unfold InD diffL chA chB
 rw [List.mem_append, List.mem_flatMap, List.mem_flatMap]
 constructor
 ·rintro (⟨x, hx, h⟩ | ⟨x, hx, h⟩)
  ·unfold stepA at h
   split at h
   ·rename_i e
    rw [List.mem_singleton.1 h]
    exact .inl ⟨rfl, ⟨x, hx, rfl⟩, (walk_none hb hvb x.1).2 e⟩
   ·rename_i v e
    split at h
    ·cases h
    ·rename_i hne
     obtain ⟨y, rfl⟩ := hri hvb _ _ e
     rw [List.mem_singleton.1 h]
     exact .inr (.inr ⟨rfl, x, hx, (x.1, y), (walk_mem hb hvb _).2 e, rfl, rfl, fun e2 => hne e2.symm⟩)
  ·unfold stepB at h
   split at h
   ·rename_i e
    rw [List.mem_singleton.1 h]
    exact .inr (.inl ⟨rfl, ⟨x, hx, rfl⟩, (walk_none ha hva x.1).2 e⟩)
   ·cases h
 ·rintro (⟨h1, ⟨x, hx, h2⟩, h3⟩ | ⟨h1, ⟨x, hx, h2⟩, h3⟩ | ⟨h1, x, hx, y, hy, h2, h3, h4⟩)
  ·refine .inl ⟨x, hx, ?_⟩
   have e := (walk_none hb hvb c.1).1 h3
   unfold stepA
   rw [h2, e]
   exact List.mem_singleton.2 (Prod.ext rfl h1)
  ·refine .inr ⟨x, hx, ?_⟩
   have e := (walk_none ha hva c.1).1 h3
   unfold stepB
   rw [h2, e]
   exact List.mem_singleton.2 (Prod.ext rfl h1)
  ·refine .inl ⟨x, hx, ?_⟩
   have e := (walk_mem hb hvb y).1 hy
   rw [h3] at e
   unfold stepA
   rw [h2, e]
   show c ∈ if y.2 = x.2 then [] else _
   rw [if_neg (fun e => h4 e.symm)]
   exact List.mem_singleton.2 (Prod.ext rfl h1)
theorem step_keys (f : Kc → List Kc) (hf : ∀ x, f x = [] ∨ ∃ n, f x = [(x.1, n)]) : ∀ z : List Kc, RiseK z → RiseK (z.flatMap f) ∧ ∀ c ∈ z.flatMap f, ∃ x ∈ z, x.1 = c.1
 | [], _ => ⟨List.Pairwise.nil, fun c hc => by cases hc⟩
 | x :: z, h => by
  obtain ⟨h1, h2⟩ := List.pairwise_cons.1 h
  obtain ⟨i1, i2⟩ := step_keys f hf z h2
  rw [List.flatMap_cons]
  rcases hf x with e | ⟨n, e⟩
  ·rw [e]
   exact ⟨i1, fun c hc => by obtain ⟨y, hy, e⟩ := i2 c hc; exact ⟨y, by simp [hy], e⟩⟩
  ·rw [e]
   refine ⟨List.pairwise_cons.2 ⟨fun c hc => ?_, i1⟩, fun c hc => ?_⟩
   ·obtain ⟨y, hy, e⟩ := i2 c hc
    show L x.1 < L c.1
    rw [← e]
    exact h1 y hy
   ·rcases List.mem_cons.1 hc with rfl | hc
    ·exact ⟨x, by simp, rfl⟩
    ·obtain ⟨y, hy, e⟩ := i2 c hc
     exact ⟨y, by simp [hy], e⟩
theorem stepA_form (rb : Nd) (x : Kc) : stepA rb x = [] ∨ ∃ n, stepA rb x = [(x.1, n)] := by
 unfold stepA
 split
 ·exact .inr ⟨_, rfl⟩
 ·split
  ·exact .inl rfl
  ·exact .inr ⟨_, rfl⟩
theorem stepB_form (rb : Nd) (x : Kc) : stepB rb x = [] ∨ ∃ n, stepB rb x = [(x.1, n)] := by
 unfold stepB
 split
 ·exact .inr ⟨_, rfl⟩
 ·exact .inl rfl
theorem diff_keys {ra rb : Nd} (ha : T.Good ra) (hva : IntVals ra) (hb : T.Good rb) (hvb : IntVals rb) : ((diffL ra rb).map (·.1)).Nodup := by
 have hA := step_keys (stepA rb) (stepA_form rb) (walkL ra) (walk_rise ha)
 have hB := step_keys (stepB ra) (stepB_form ra) (walkL rb) (walk_rise hb)
 unfold diffL
 rw [List.map_append]
 refine List.nodup_append.2 ⟨List.pairwise_map.2 (hA.1.imp lt_ne), List.pairwise_map.2 (hB.1.imp lt_ne), fun k hk k' hk' e => ?_⟩
 subst e
 obtain ⟨c, hc, rfl⟩ := List.mem_map.1 hk
 obtain ⟨d, hd, e⟩ := List.mem_map.1 hk'
 obtain ⟨x, hx, ex⟩ := hA.2 c hc
 obtain ⟨y, hy, h⟩ := List.mem_flatMap.1 hd
 unfold stepB at h
 split at h
 ·rename_i e2
  have h3 := (List.mem_singleton.1 h)
  rw [h3] at e
  have e' : y.1 = c.1 := e
  have h4 := ovr_val ha hva hx
  rw [ex, ← e', e2] at h4
  cases h4
 ·cases h
theorem diff_merge {ra rb : Nd} (ha : T.Good ra) (hva : IntVals ra) (hb : T.Good rb) (hvb : IntVals rb) {l : List Kc} (hp : l.Perm (diffL ra rb)) (hs : SortedIn (ltOf cfC) 0 l.length l.toArray) : l = mergeL (walkL ra) (walkL rb) := by
 have hk : (l.map (·.1)).Nodup := (hp.map _).nodup_iff.2 (diff_keys ha hva hb hvb)
 have hr : RiseK l := by
  rw [RiseK, List.pairwise_iff_getElem]
  intro i j hi hj hij
  have h1 := hs i j (Nat.zero_le _) hij hj
  rw [ltC] at h1
  have e1 : l.toArray[j]! = l[j] := by simp [hj]
  have e2 : l.toArray[i]! = l[i] := by simp [hi]
  rw [e1, e2, decide_eq_false_iff_not] at h1
  rcases blt_total (L l[i].1) (L l[j].1) with h | h | h
  ·exact h
  ·have hne := List.pairwise_iff_getElem.1 (List.pairwise_map.1 hk) i j hi hj hij
   exact absurd (T.L_inj h) hne
  ·exact absurd h h1
 exact sorted_ext (lt := fun a b : Kc => L a.1 < L b.1) (fun a => blt_irrefl _) (fun a b c => blt_trans) _ _ hr (merge_rise _ _ (walk_rise ha) (walk_rise hb)) (fun c => (hp.mem_iff.trans (diff_inD ha hva hb hvb c)).trans (merge_mem _ _ (walk_rise ha) (walk_rise hb) c).symm)
end Go.Proofs.Ytjhgknagmiekeaa.D
