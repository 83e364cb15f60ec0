/- timers: the line's methods at memory: Len, Less, Swap. -/
import Derived.Test.YtioaihimmmjhcaaChecked
import Derived.Test.YtioaihimmmjhcaaWMore
import Derived.Handy
import Derived.Lib.SliceRun
import Derived.WalkSpells
set_option linter.unusedVariables false
set_option linter.unusedSimpArgs false
namespace Go.Proofs.Ytioaihimmmjhcaa.T
open Go.RowKit Go.Proofs.YtioaihimmmjhcaaW.PrintWords

/-- a timer, without its place -/
structure Tm where
  at_ : Int
  ord : Int
  id : Int
deriving Inhabited
/-- what a call does to the blocks that it may touch alone -/
structure Fr (S : List Nat) (w w' : World) : Prop where
  os : w'.os = w.os
  tape : w'.tape = w.tape
  output : w'.output = w.output
  size : w.heap.size ≤ w'.heap.size
  block : ∀ k, k < w.heap.size → k ∉ S → w'.heap[k]? = w.heap[k]?
theorem Fr.refl (S : List Nat) (w : World) : Fr S w w := ⟨rfl, rfl, rfl, Nat.le_refl _, fun _ _ _ => rfl⟩
theorem Fr.trans {S : List Nat} {a b c : World} (h : Fr S a b) (k : Fr S b c) : Fr S a c :=
  ⟨k.os.trans h.os, k.tape.trans h.tape, k.output.trans h.output, Nat.le_trans h.size k.size, fun i hi hs => (k.block i (Nat.lt_of_lt_of_le hi h.size) hs).trans (h.block i hi hs)⟩
theorem Fr.drew {S : List Nat} {a w : World} (h : Fr S a w) : Fr S a w.drew := ⟨h.os, h.tape, h.output, h.size, h.block⟩

def tmObj (t : Tm) (pl : Int) : Obj := .cells #[.int .u64 t.at_, .int .u64 t.ord, .int .i64 t.id, .int .i64 pl] 46 (0, 0)
def TimerAt (w : World) (b : Nat) (t : Tm) : Prop := ∃ pl, w.heap[b]? = some (tmObj t pl)
/-- a row of pointers to timers -/
structure LineAt (w : World) (L : Nat) (cap : Nat) (ts : List (Nat × Tm)) : Prop where
  row : ∃ r : List Value, w.heap[L]? = some (.cells r.toArray 44 (0, 0)) ∧ r.length = cap ∧ ∀ i (h : i < ts.length), r[i]? = some (.pointer (some ⟨ts[i].1, 0, none⟩))
  timers : ∀ i (h : i < ts.length), TimerAt w ts[i].1 ts[i].2
  apart : ∀ i (h : i < ts.length), ts[i].1 ≠ L
  nodup : (ts.map (·.1)).Nodup

def lessT (a b : Tm) : Bool := if a.at_ ≠ b.at_ then decide (a.at_ < b.at_) else decide (a.ord < b.ord)

theorem LineAt.cell {w : World} {L cap : Nat} {ts : List (Nat × Tm)} (h : LineAt w L cap ts) (i : Nat) (hi : i < ts.length) : w.cell? ⟨L, i, none⟩ = some (.pointer (some ⟨ts[i].1, 0, none⟩)) := by
  obtain ⟨r, hr, _, hp⟩ := h.row
  simp only [World.cell?, hr]
  simpa using hp i hi
theorem LineAt.tcell {w : World} {L cap : Nat} {ts : List (Nat × Tm)} (h : LineAt w L cap ts) (i : Nat) (hi : i < ts.length) :
    w.cell? ⟨ts[i].1, 0, none⟩ = some (.int .u64 ts[i].2.at_) ∧ w.cell? ⟨ts[i].1, 1, none⟩ = some (.int .u64 ts[i].2.ord) ∧ w.cell? ⟨ts[i].1, 2, none⟩ = some (.int .i64 ts[i].2.id) := by
  obtain ⟨pl, hp⟩ := h.timers i hi
  simp [World.cell?, hp, tmObj]

set_option maxHeartbeats 2000000 in
set_option maxRecDepth 100000 in
theorem less (w : World) (L cap : Nat) (ts : List (Nat × Tm)) (i j : Nat) (hL : LineAt w L cap ts) (hi : i < ts.length) (hj : j < ts.length) :
    Calls Try.prog 37 #[.slice (some ⟨L, 0, none⟩) ts.length cap, .int .i64 i, .int .i64 j] w fun e w' => e = .returned (.bool (lessT ts[i].2 ts[j].2)) ∧ Fr [] w w' ∧ w'.heap = w.heap := by
  have ci := hL.cell i hi
  have cj := hL.cell j hj
  obtain ⟨ai, oi, _⟩ := hL.tcell i hi
  obtain ⟨aj, oj, _⟩ := hL.tcell j hj
  clear hL
  generalize ts[i] = ti at *
  generalize ts[j] = tj at *
  obtain ⟨bi, ti⟩ := ti
  obtain ⟨bj, tj⟩ := tj
  generalize ts.length = n at *
  simp only at ai oi aj oj ci cj
  go_enter Try.func37, Try.ntmps37
  go_wp2
  go_region
  go_wp2
  · go_region
    go_wp2
    go_ret
    refine ⟨?_, (Fr.refl _ _).drew.drew, rfl⟩
    rename_i hne
    have h2 : ti.at_ ≠ tj.at_ := by simpa using hne
    show Ending.returned (.bool (decide (ti.at_ < tj.at_))) = _
    simp [lessT, h2]
  · go_region
    go_wp2
    go_ret
    refine ⟨?_, (Fr.refl _ _).drew.drew, rfl⟩
    rename_i hne
    have h2 : ti.at_ = tj.at_ := by simpa using hne
    show Ending.returned (.bool (decide (ti.ord < tj.ord))) = _
    simp [lessT, h2]

def swapL (ts : List (Nat × Tm)) (i j : Nat) : List (Nat × Tm) := (ts.set i (ts.getD j default)).set j (ts.getD i default)

theorem swapL_length (ts : List (Nat × Tm)) (i j : Nat) : (swapL ts i j).length = ts.length := by simp [swapL]
theorem swapL_get (ts : List (Nat × Tm)) (i j k : Nat) (hi : i < ts.length) (hj : j < ts.length) (hk : k < (swapL ts i j).length) :
    (swapL ts i j)[k] = if k = j then ts[i] else if k = i then ts[j] else ts[k]'(by simpa [swapL] using hk) := by
  have e1 : ts.getD j default = ts[j] := by simp [List.getD_eq_getElem?_getD, List.getElem?_eq_getElem hj]
  have e2 : ts.getD i default = ts[i] := by simp [List.getD_eq_getElem?_getD, List.getElem?_eq_getElem hi]
  simp only [swapL, e1, e2, List.getElem_set]
  by_cases h1 : k = j
  · subst h1; simp
  · have h1' : ¬ j = k := fun e => h1 e.symm
    by_cases h2 : k = i
    · subst h2; simp [h1, h1']
    · have h2' : ¬ i = k := fun e => h2 e.symm
      simp [h1, h1', h2, h2']
theorem swapL_perm (ts : List (Nat × Tm)) (i j : Nat) (hi : i < ts.length) (hj : j < ts.length) : (swapL ts i j).Perm ts := by
  have e1 : ts.getD j default = ts[j] := by simp [List.getD_eq_getElem?_getD, List.getElem?_eq_getElem hj]
  have e2 : ts.getD i default = ts[i] := by simp [List.getD_eq_getElem?_getD, List.getElem?_eq_getElem hi]
  unfold swapL
  rw [e1, e2]
  exact List.set_set_perm hi hj
theorem LineAt.swap {w w2 : World} {L cap : Nat} {ts : List (Nat × Tm)} {i j : Nat} {r : List Value} (hL : LineAt w L cap ts) (hi : i < ts.length) (hj : j < ts.length)
    (hr : w.heap[L]? = some (.cells r.toArray 44 (0, 0)))
    (hrow : w2.heap[L]? = some (.cells ((r.set i (.pointer (some ⟨ts[j].1, 0, none⟩))).set j (.pointer (some ⟨ts[i].1, 0, none⟩))).toArray 44 (0, 0)))
    (hbi : TimerAt w2 ts[i].1 ts[i].2) (hbj : TimerAt w2 ts[j].1 ts[j].2)
    (hoth : ∀ b, b ≠ L → b ≠ ts[i].1 → b ≠ ts[j].1 → w2.heap[b]? = w.heap[b]?) : LineAt w2 L cap (swapL ts i j) := by
  obtain ⟨r', hr', hrl, hrp⟩ := hL.row
  have er : r' = r := by
    rw [hr] at hr'
    simp only [Option.some.injEq, Obj.cells.injEq] at hr'
    exact (Array.toList_inj.2 hr'.1).symm
  subst er
  have hri : i < r'.length := (List.getElem?_eq_some_iff.1 (hrp i hi)).1
  have hrj : j < r'.length := (List.getElem?_eq_some_iff.1 (hrp j hj)).1
  refine ⟨⟨_, hrow, by simp [hrl], ?_⟩, ?_, ?_, ?_⟩
  · intro k hk
    rw [swapL_get ts i j k hi hj hk]
    rw [swapL_length] at hk
    have hrk : k < r'.length := (List.getElem?_eq_some_iff.1 (hrp k hk)).1
    by_cases h1 : k = j
    · subst h1; simp [hrk]
    · have h1' : ¬ j = k := fun e => h1 e.symm
      by_cases h2 : k = i
      · subst h2; simp [h1, h1', hrk, List.getElem?_set]
      · have h2' : ¬ i = k := fun e => h2 e.symm
        simp [h1, h1', h2, h2', List.getElem?_set, hrp k hk]
  · intro k hk
    rw [swapL_get ts i j k hi hj hk]
    rw [swapL_length] at hk
    by_cases h1 : k = j
    · rw [if_pos h1]; exact hbi
    · rw [if_neg h1]
      by_cases h2 : k = i
      · rw [if_pos h2]; exact hbj
      · rw [if_neg h2]
        obtain ⟨pl, hp⟩ := hL.timers k hk
        have nd : ∀ a (ha : a < ts.length), k ≠ a → ts[k].1 ≠ ts[a].1 := by
          intro a ha hne e
          have h3 := hL.nodup
          rw [List.Nodup, List.pairwise_iff_getElem] at h3
          rcases Nat.lt_or_gt_of_ne hne with h | h
          · exact h3 k a (by simpa using hk) (by simpa using ha) h (by simpa using e)
          · exact h3 a k (by simpa using ha) (by simpa using hk) h (by simpa using e.symm)
        exact ⟨pl, (hoth _ (hL.apart k hk) (nd i hi h2) (nd j hj h1)).trans hp⟩
  · intro k hk
    rw [swapL_get ts i j k hi hj hk]
    rw [swapL_length] at hk
    split
    · exact hL.apart i hi
    · split
      · exact hL.apart j hj
      · exact hL.apart k hk
  · exact ((swapL_perm ts i j hi hj).map (·.1)).nodup_iff.2 hL.nodup

set_option maxHeartbeats 4000000 in
set_option maxRecDepth 100000 in
theorem swap_ne (w : World) (L cap : Nat) (ts : List (Nat × Tm)) (i j : Nat) (hL : LineAt w L cap ts) (hi : i < ts.length) (hj : j < ts.length) (hij : i ≠ j) :
    Calls Try.prog 38 #[.slice (some ⟨L, 0, none⟩) ts.length cap, .int .i64 i, .int .i64 j] w fun e w' => e = .returned (.tuple #[]) ∧ LineAt w' L cap (swapL ts i j) ∧ Fr (L :: ts.map (·.1)) w w' := by
  have ci := hL.cell i hi
  have cj := hL.cell j hj
  obtain ⟨pi, hpi⟩ := hL.timers i hi
  obtain ⟨pj, hpj⟩ := hL.timers j hj
  obtain ⟨r, hr, hrl, hrp⟩ := hL.row
  have aI := hL.apart i hi
  have aJ := hL.apart j hj
  have hRi : i < r.length := (List.getElem?_eq_some_iff.1 (hrp i hi)).1
  have hRj : j < r.length := (List.getElem?_eq_some_iff.1 (hrp j hj)).1
  have hne : ts[i].1 ≠ ts[j].1 := by
    intro e
    have h3 := hL.nodup
    rw [List.Nodup, List.pairwise_iff_getElem] at h3
    rcases Nat.lt_or_gt_of_ne hij with h | h
    · exact h3 i j (by simpa using hi) (by simpa using hj) h (by simpa using e)
    · exact h3 j i (by simpa using hj) (by simpa using hi) h (by simpa using e.symm)
  have hmem : Aside0 (ts[i].1 ∈ ts.map (·.1) ∧ ts[j].1 ∈ ts.map (·.1)) := ⟨⟨List.mem_map.2 ⟨ts[i], List.getElem_mem hi, rfl⟩, List.mem_map.2 ⟨ts[j], List.getElem_mem hj, rfl⟩⟩⟩
  have fin := Aside0.mk (fun (w2 : World) => hL.swap (w2 := w2) hi hj hr)
  clear hL
  have fi : w.frozen? ⟨L, i, none⟩ = false := blk_frozen hr i
  have fj : w.frozen? ⟨L, j, none⟩ = false := blk_frozen hr j
  generalize ts[i] = ti at *
  generalize ts[j] = tj at *
  obtain ⟨bi, ti⟩ := ti
  obtain ⟨bj, tj⟩ := tj
  simp only at ci cj hpi hpj aI aJ hne hmem
  go_enter Try.func38, Try.ntmps38
  go_wp2
  go_region
  obtain ⟨w1, hw1⟩ : ∃ w1, ((w.setCell ⟨L, i, none⟩ (.pointer (some ⟨bj, 0, none⟩))).setCell ⟨L, j, none⟩ (.pointer (some ⟨bi, 0, none⟩))) = w1 := ⟨_, rfl⟩
  rw [hw1]
  have hr1 : w1.heap[L]? = some (.cells ((r.toArray.setIfInBounds i (.pointer (some ⟨bj, 0, none⟩))).setIfInBounds j (.pointer (some ⟨bi, 0, none⟩))) 44 (0, 0)) := by rw [← hw1]; exact blk_set (blk_set hr i _) j _
  have hpi1 : w1.heap[bi]? = some (.cells #[.int .u64 ti.at_, .int .u64 ti.ord, .int .i64 ti.id, .int .i64 pi] 46 (0, 0)) := by rw [← hw1]; exact blk_far (p := ⟨L, j, none⟩) (blk_far (p := ⟨L, i, none⟩) hpi aI _) aI _
  have hpj1 : w1.heap[bj]? = some (.cells #[.int .u64 tj.at_, .int .u64 tj.ord, .int .i64 tj.id, .int .i64 pj] 46 (0, 0)) := by rw [← hw1]; exact blk_far (p := ⟨L, j, none⟩) (blk_far (p := ⟨L, i, none⟩) hpj aJ _) aJ _
  have hji : ¬ j = i := fun e => hij e.symm
  have ci1 : w1.cell? ⟨L, i, none⟩ = some (.pointer (some ⟨bj, 0, none⟩)) := by rw [blk_cell hr1]; simp [Array.getElem?_setIfInBounds, hij, hji, hRi]
  have cj1 : w1.cell? ⟨L, j, none⟩ = some (.pointer (some ⟨bi, 0, none⟩)) := by rw [blk_cell hr1]; simp [Array.getElem?_setIfInBounds, hij, hji, hRj]
  have k0 : w1.cell? ⟨bi, 3, none⟩ = some (.int .i64 pi) := by rw [blk_cell hpi1]; rfl
  have k1 : w1.cell? ⟨bj, 3, none⟩ = some (.int .i64 pj) := by rw [blk_cell hpj1]; rfl
  have g0 : w1.frozen? ⟨bi, 3, none⟩ = false := blk_frozen hpi1 3
  have g1 : w1.frozen? ⟨bj, 3, none⟩ = false := blk_frozen hpj1 3
  have far : Aside0 (∀ b, b ≠ L → w1.heap[b]? = w.heap[b]?) := ⟨fun b hb => by rw [← hw1, Below.heap_setCell _ _ _ b hb, Below.heap_setCell _ _ _ b hb]⟩
  have sz : Aside0 (w1.heap.size = w.heap.size ∧ w1.os = w.os ∧ w1.tape = w.tape ∧ w1.output = w.output) := ⟨by rw [← hw1]; simp [World.setCell]⟩
  clear hw1 ci cj fi fj hpi hpj
  have hr1' := Aside0.mk hr1
  have hpi' := Aside0.mk hpi1
  have hpj' := Aside0.mk hpj1
  clear hr1 hpi1 hpj1
  go_wp2
  go_region
  go_end0
  have hpi2 := hpi'.out
  have hpj2 := hpj'.out
  have hr2 := hr1'.out
  obtain ⟨s1, s2, s3, s4⟩ := sz.out
  refine ⟨rfl, fin.out _ ?_ ⟨j, ?_⟩ ⟨i, ?_⟩ ?_, ?_⟩
  · have := blk_far (p := ⟨bi, 3, none⟩) (blk_far (p := ⟨bj, 3, none⟩) hr2 (fun e => aJ e.symm) (.int .i64 i)) (fun e => aI e.symm) (.int .i64 j)
    show (((w1.setCell _ _).setCell _ _).heap[L]?) = _
    simpa using this
  · exact blk_put (blk_far (p := ⟨bj, 3, none⟩) hpi2 hne _) 3 _ rfl
  · exact blk_far (p := ⟨bi, 3, none⟩) (blk_put hpj2 3 _ rfl) (fun e => hne e.symm) _
  · intro b h1 h2 h3
    show (((w1.setCell _ _).setCell _ _).heap[b]?) = _
    rw [Below.heap_setCell _ _ _ b h2, Below.heap_setCell _ _ _ b h3]
    exact far.out b h1
  · refine ⟨s2, s3, s4, ?_, fun k hk hs => ?_⟩
    · show w.heap.size ≤ ((w1.setCell _ _).setCell _ _).heap.size
      simp [World.setCell, s1]
    · have k1 : k ≠ L := fun e => hs (by simp [e])
      have k2 : k ≠ bi := fun e => hs (List.mem_cons_of_mem _ (e ▸ hmem.out.1))
      have k3 : k ≠ bj := fun e => hs (List.mem_cons_of_mem _ (e ▸ hmem.out.2))
      show (((w1.setCell _ _).setCell _ _).heap[k]?) = _
      rw [Below.heap_setCell _ _ _ k k2, Below.heap_setCell _ _ _ k k3]
      exact far.out k k1

theorem swapL_self (ts : List (Nat × Tm)) (i : Nat) (hi : i < ts.length) : swapL ts i i = ts := by
  apply List.ext_getElem (by simp [swapL])
  intro k h1 h2
  rw [swapL_get ts i i k hi hi h1]
  by_cases h : k = i
  · subst h; simp
  · simp [h]
set_option maxHeartbeats 4000000 in
set_option maxRecDepth 100000 in
theorem swap_eq (w : World) (L cap : Nat) (ts : List (Nat × Tm)) (i : Nat) (hL : LineAt w L cap ts) (hi : i < ts.length) :
    Calls Try.prog 38 #[.slice (some ⟨L, 0, none⟩) ts.length cap, .int .i64 i, .int .i64 i] w fun e w' => e = .returned (.tuple #[]) ∧ LineAt w' L cap ts ∧ Fr (L :: ts.map (·.1)) w w' := by
  have ci := hL.cell i hi
  obtain ⟨pi, hpi⟩ := hL.timers i hi
  obtain ⟨r, hr, hrl, hrp⟩ := hL.row
  have aI := hL.apart i hi
  have hRi : i < r.length := (List.getElem?_eq_some_iff.1 (hrp i hi)).1
  have hri := hrp i hi
  have hmem : Aside0 (ts[i].1 ∈ ts.map (·.1)) := ⟨List.mem_map.2 ⟨ts[i], List.getElem_mem hi, rfl⟩⟩
  have fin := Aside0.mk (fun (w2 : World) => hL.swap (w2 := w2) hi hi hr)
  rw [swapL_self ts i hi] at fin
  clear hL
  have fi : w.frozen? ⟨L, i, none⟩ = false := blk_frozen hr i
  generalize ts[i] = ti at *
  obtain ⟨bi, ti⟩ := ti
  simp only at ci hpi aI hmem hri
  go_enter Try.func38, Try.ntmps38
  go_wp2
  go_region
  obtain ⟨w1, hw1⟩ : ∃ w1, ((w.setCell ⟨L, i, none⟩ (.pointer (some ⟨bi, 0, none⟩))).setCell ⟨L, i, none⟩ (.pointer (some ⟨bi, 0, none⟩))) = w1 := ⟨_, rfl⟩
  rw [hw1]
  have hr1 : w1.heap[L]? = some (.cells ((r.toArray.setIfInBounds i (.pointer (some ⟨bi, 0, none⟩))).setIfInBounds i (.pointer (some ⟨bi, 0, none⟩))) 44 (0, 0)) := by rw [← hw1]; exact blk_set (blk_set hr i _) i _
  have hpi1 : w1.heap[bi]? = some (.cells #[.int .u64 ti.at_, .int .u64 ti.ord, .int .i64 ti.id, .int .i64 pi] 46 (0, 0)) := by rw [← hw1]; exact blk_far (p := ⟨L, i, none⟩) (blk_far (p := ⟨L, i, none⟩) hpi aI _) aI _
  have ci1 : w1.cell? ⟨L, i, none⟩ = some (.pointer (some ⟨bi, 0, none⟩)) := by rw [blk_cell hr1]; simp [Array.getElem?_setIfInBounds, hRi]
  have k0 : w1.cell? ⟨bi, 3, none⟩ = some (.int .i64 pi) := by rw [blk_cell hpi1]; rfl
  have g0 : w1.frozen? ⟨bi, 3, none⟩ = false := blk_frozen hpi1 3
  have far : Aside0 (∀ b, b ≠ L → w1.heap[b]? = w.heap[b]?) := ⟨fun b hb => by rw [← hw1, Below.heap_setCell _ _ _ b hb, Below.heap_setCell _ _ _ b hb]⟩
  have sz : Aside0 (w1.heap.size = w.heap.size ∧ w1.os = w.os ∧ w1.tape = w.tape ∧ w1.output = w.output) := ⟨by rw [← hw1]; simp [World.setCell]⟩
  clear hw1 ci fi hpi
  have hr1' := Aside0.mk hr1
  have hpi' := Aside0.mk hpi1
  clear hr1 hpi1
  go_wp2
  go_region
  go_end0
  have hpi2 := hpi'.out
  have hr2 := hr1'.out
  obtain ⟨s1, s2, s3, s4⟩ := sz.out
  have hb : ∀ (w2 : World), w2.heap[bi]? = some (.cells #[.int .u64 ti.at_, .int .u64 ti.ord, .int .i64 ti.id, .int .i64 i] 46 (0, 0)) → TimerAt w2 bi ti := fun w2 h => ⟨i, h⟩
  have hbb := blk_put (blk_put hpi2 3 (.int .i64 i) rfl) 3 (.int .i64 i) rfl
  refine ⟨rfl, fin.out _ ?_ (hb _ hbb) (hb _ hbb) ?_, ?_⟩
  · have := blk_far (p := ⟨bi, 3, none⟩) (blk_far (p := ⟨bi, 3, none⟩) hr2 (fun e => aI e.symm) (.int .i64 i)) (fun e => aI e.symm) (.int .i64 i)
    show (((w1.setCell _ _).setCell _ _).heap[L]?) = _
    simpa using this
  · intro b h1 h2 h3
    show (((w1.setCell _ _).setCell _ _).heap[b]?) = _
    rw [Below.heap_setCell _ _ _ b h2, Below.heap_setCell _ _ _ b h3]
    exact far.out b h1
  · refine ⟨s2, s3, s4, ?_, fun k hk hs => ?_⟩
    · show w.heap.size ≤ ((w1.setCell _ _).setCell _ _).heap.size
      simp [World.setCell, s1]
    · have k1 : k ≠ L := fun e => hs (by simp [e])
      have k2 : k ≠ bi := fun e => hs (List.mem_cons_of_mem _ (e ▸ hmem.out))
      show (((w1.setCell _ _).setCell _ _).heap[k]?) = _
      rw [Below.heap_setCell _ _ _ k k2, Below.heap_setCell _ _ _ k k2]
      exact far.out k k1
theorem swap (w : World) (L cap : Nat) (ts : List (Nat × Tm)) (i j : Nat) (hL : LineAt w L cap ts) (hi : i < ts.length) (hj : j < ts.length) :
    Calls Try.prog 38 #[.slice (some ⟨L, 0, none⟩) ts.length cap, .int .i64 i, .int .i64 j] w fun e w' => e = .returned (.tuple #[]) ∧ LineAt w' L cap (swapL ts i j) ∧ Fr (L :: ts.map (·.1)) w w' := by
  by_cases h : i = j
  · subst h
    rw [swapL_self ts i hi]
    exact swap_eq w L cap ts i hL hi
  · exact swap_ne w L cap ts i j hL hi hj h
end Go.Proofs.Ytioaihimmmjhcaa.T
