/- radix: one pointer put into a row of its own (slices.Insert). -/
import Derived.Test.YtkaeglnnahecjaaR5
set_option linter.unusedVariables false
set_option linter.unusedSimpArgs false
namespace Go.Proofs.Ytkaeglnnahecjaa.T
open Go.RowKit Go.Lib Go.Proofs Go.Proofs.YtkaeglnnahecjaaW.PrintWords

def putL (cur : Array Value) : Nat → List Value → Array Value
  | _, [] => cur
  | o, v :: r => putL (cur.setIfInBounds o v) (o + 1) r
theorem putL_size : ∀ (vs : List Value) (cur : Array Value) (o : Nat), (putL cur o vs).size = cur.size
  | [], _, _ => rfl
  | v :: r, cur, o => by unfold putL; rw [putL_size r]; simp
theorem putL_at : ∀ (vs : List Value) (cur : Array Value) (o j : Nat), o + vs.length ≤ cur.size → (putL cur o vs)[j]? = if o ≤ j ∧ j < o + vs.length then vs[j - o]? else cur[j]?
  | [], cur, o, j, _ => by unfold putL; simp; omega
  | v :: r, cur, o, j, h => by
    unfold putL
    simp only [List.length_cons] at h ⊢
    rw [putL_at r (cur.setIfInBounds o v) (o + 1) j (by simp; omega)]
    by_cases e : j = o
    · subst e
      rw [if_neg (by omega), if_pos (by omega), Array.getElem?_setIfInBounds_self_of_lt (by omega), Nat.sub_self]
      rfl
    · by_cases h1 : o + 1 ≤ j ∧ j < o + 1 + r.length
      · rw [if_pos h1, if_pos (by omega)]
        have : j - o = (j - (o + 1)) + 1 := by omega
        rw [this, List.getElem?_cons_succ]
      · rw [if_neg h1, if_neg (by omega), Array.getElem?_setIfInBounds_ne (by omega)]
theorem heap_setCell (w : World) {g o : Nat} {cur : Array Value} {t : TypeId} {f : Nat × Nat} (v : Value) (h : w.heap[g]? = some (.cells cur t f)) : (w.setCell ⟨g, o, none⟩ v).heap[g]? = some (.cells (cur.setIfInBounds o v) t f) := by
  simp [World.setCell, Array.getElem?_modify, h]
theorem heap_setCells {g : Nat} {t : TypeId} {f : Nat × Nat} : ∀ (vs : List Value) (w : World) (cur : Array Value) (o : Nat), w.heap[g]? = some (.cells cur t f) → (w.setCells g o vs).heap[g]? = some (.cells (putL cur o vs) t f)
  | [], _, _, _, h => h
  | v :: r, w, cur, o, h => by
    rw [World.setCells, putL]
    exact heap_setCells r _ _ _ (heap_setCell w v h)
theorem grown_refl (w : World) (row : Option Nat) : w.grownBy w row := ⟨rfl, rfl, rfl, Nat.le_refl _, fun _ _ _ => rfl⟩
theorem grown_trans {a b c : World} {row row' : Option Nat} (h : a.grownBy b row) (k : b.grownBy c row') (hr : ∀ g, row' = some g → row = some g ∨ a.heap.size ≤ g) : a.grownBy c row :=
  ⟨k.os.trans h.os, k.tape.trans h.tape, k.output.trans h.output, Nat.le_trans h.size k.size, fun i hi hn => (k.block i (Nat.lt_of_lt_of_le hi h.size) (fun e => by rcases hr i e.symm with h1 | h1; exact hn h1.symm; omega)).trans (h.block i hi hn)⟩
theorem grown_set (w : World) (g o : Nat) (v : Value) : w.grownBy (w.setCell ⟨g, o, none⟩ v) (some g) :=
  ⟨rfl, rfl, rfl, by simp [World.setCell], fun k hk hn => Below.heap_setCell _ _ _ k (fun e => hn (by rw [e]))⟩
theorem grown_sets (g : Nat) : ∀ (vs : List Value) (w : World) (o : Nat), w.grownBy (w.setCells g o vs) (some g)
  | [], w, _ => grown_refl w _
  | v :: r, w, o => by
    rw [World.setCells]
    exact grown_trans (grown_set w g o v) (grown_sets g r _ _) (fun k e => .inl e)
theorem size_sets (g : Nat) (vs : List Value) (w : World) (o : Nat) : (w.setCells g o vs).heap.size = w.heap.size := by
  induction vs generalizing w o with
  | nil => rfl
  | cons v r ih => rw [World.setCells, ih]; simp [World.setCell]

/-- a row of its own whose block is written: it reads as the list that stands in front now -/
theorem owns_of {w : World} {base g n cap : Nat} {cur : Array Value} {xs : List Value} (hb : base ≤ g) (h : w.heap[g]? = some (.cells cur 58 (0, 0))) (hn : n ≤ cap) (hm : cap ≤ maxLen) (hs : cur.size = cap) (hx : xs.length = n) (ht : ∀ j, j < n → cur[j]? = xs[j]?) :
    w.ownsRow base 58 1 (.slice (some ⟨g, 0, none⟩) n cap) n xs := by
  refine ⟨by omega, .inr ⟨g, cap, cur, rfl, hb, h, hn, hm, by omega, ?_⟩⟩
  apply List.ext_getElem?
  intro j
  rw [Nat.mul_one, List.getElem?_take]
  split
  · rename_i hj
    rw [Array.getElem?_toList, ht j hj]
  · rw [List.getElem?_eq_none (by omega)]
theorem put_at (ps : List Value) (x : Value) (i : Nat) (hi : i ≤ ps.length) (j : Nat) : (ps.take i ++ x :: ps.drop i)[j]? = if j < i then ps[j]? else if j = i then some x else ps[j - 1]? := by
  have hl : (ps.take i).length = i := by rw [List.length_take]; omega
  by_cases h : j < i
  · rw [if_pos h, List.getElem?_append_left (by omega), List.getElem?_take, if_pos h]
  · rw [if_neg h, List.getElem?_append_right (by omega), hl]
    by_cases e : j = i
    · subst e; rw [if_pos rfl, Nat.sub_self]; rfl
    · rw [if_neg e]
      have e2 : j - i = (j - 1 - i) + 1 := by omega
      rw [e2, List.getElem?_cons_succ, List.getElem?_drop]
      congr 1
      omega
theorem insRow (w : World) (base : Nat) (kv : Value) (n : Nat) (ps : List Value) (i vb c1 : Nat) (x : Value) (hown : w.ownsRow base 58 1 kv n ps) (hi : i ≤ n) (hn : n ≤ 256) (hv : w.heap[vb]? = some (.cells #[x] 58 (0, 0))) (hx : x.oneCell' = true) (h1c : ∀ u ∈ ps, u.oneCell' = true) (hvb : kv.ownBlock ≠ some vb) (hb : base ≤ w.heap.size) :
    Calls Try.prog 103 #[kv, .int .i64 i, .slice (some ⟨vb, 0, none⟩) 1 c1] w fun e w' => ∃ v', e = .returned v' ∧ w'.ownsRow base 58 1 v' (n + 1) (ps.take i ++ x :: ps.drop i) ∧ w.grownBy w' kv.ownBlock ∧ (v'.ownBlock = kv.ownBlock ∨ v'.ownBlock = some w.heap.size) := by
  have hpl : ps.length = n := by simpa using hown.1
  have hnl : (ps.take i ++ x :: ps.drop i).length = n + 1 := by rw [List.length_append, List.length_take, List.length_cons, List.length_drop]; omega
  have hvs : ∀ j v, [x][j]? = some v → w.cell? ⟨vb, 0 + j, none⟩ = some v := fun j v h => by
    match j, h with
    | 0, h => simp at h; subst h; rw [Nat.zero_add, blk_cell hv]; rfl
  have h1v : ∀ v ∈ [x], v.oneCell' = true := fun v h => by rw [List.mem_singleton] at h; rw [h]; exact hx
  rcases hown.2 with ⟨rfl, rfl⟩ | ⟨g, cap, cur, rfl, hbg, hg, hnc, hcm, hcs, htake⟩
  · have h0 : i = 0 := by omega
    subst h0
    have hps : ps = [] := List.length_eq_zero_iff.1 hpl
    subst hps
    refine (ins_end_grow none 0 0 vb 0 1 c1 [] [x] w (by omega) (Nat.le_refl _) (by omega) (by omega) rfl rfl (fun _ => rfl) (fun a e => by cases e) hvs h1v).mono ?_
    rintro e w' ⟨rfl, rfl⟩
    have hG := grownCap_ge w (0 + 1) 0 58
    have hG2 := grownCap_le_maxLen w (0 + 1) 0 58 (by unfold maxLen; omega)
    refine ⟨_, rfl, owns_of hb (heap_alloc_new w.drew _) hG hG2 ?_ hnl ?_, ⟨rfl, rfl, rfl, by simp only [World.size_alloc]; exact Nat.le_succ _, fun k hk _ => heap_alloc_old w.drew _ hk⟩, .inr rfl⟩
    · rw [Array.size_append, size_zeroCells]
      show 1 + _ * 1 = _
      omega
    · intro j hj
      have : j = 0 := by omega
      subst this
      rw [Array.getElem?_append_left (by simp)]
      rfl
  · have hcell : ∀ j, w.cell? ⟨g, j, none⟩ = cur[j]? := fun j => blk_cell hg j
    have hsz : cur.size = cap := by omega
    have hpj : ∀ j v, ps[j]? = some v → cur[j]? = some v := fun j v h => by
      have hj : j < n := by have := (List.getElem?_eq_some_iff.1 h).1; omega
      rw [← htake, List.getElem?_take, if_pos (by omega), Array.getElem?_toList] at h
      exact h
    have hpn : ∀ j, j < n → cur[j]? = ps[j]? := fun j hj => by
      rw [List.getElem?_eq_getElem (by omega)]
      exact hpj j _ (List.getElem?_eq_getElem (by omega))
    by_cases hin : i = n
    · subst hin
      by_cases hroom : i + 1 ≤ cap
      · refine (ins_end_room g 0 i cap vb 0 1 c1 [x] w (by omega) hroom (by unfold maxLen at hcm; omega) rfl (fun j hj => ?_) (fun j _ => blk_frozen hg _) hvs h1v).mono ?_
        · rw [hcell, Array.getElem?_eq_getElem (by omega)]; rfl
        · rintro e w' ⟨rfl, rfl⟩
          refine ⟨_, rfl, owns_of hbg (heap_setCells [x] w cur (0 + i) hg) hroom hcm (by rw [putL_size]; exact hsz) hnl ?_, grown_sets g [x] w (0 + i), .inl rfl⟩
          intro j hj
          rw [putL_at _ _ _ _ (by simp; omega), put_at ps x i (by omega)]
          by_cases e : j < i
          · rw [if_neg (by omega), if_pos e, hpn j e]
          · have : j = i := by omega
            subst this
            rw [if_pos ⟨by omega, by simp⟩, if_neg e, if_pos rfl, Nat.zero_add, Nat.sub_self]
            rfl
      · refine (ins_end_grow (some ⟨g, 0, none⟩) i cap vb 0 1 c1 ps [x] w (by omega) hnc (by omega) (by omega) hpl rfl (fun e => by cases e) (fun a e j v h => ?_) hvs h1v).mono ?_
        · cases e
          rw [Addr.add_lit, Nat.zero_add, hcell]
          exact hpj j v h
        · rintro e w' ⟨rfl, rfl⟩
          have hG := grownCap_ge w (i + 1) cap 58
          have hG2 := grownCap_le_maxLen w (i + 1) cap 58 (by unfold maxLen; omega)
          refine ⟨_, rfl, owns_of hb (heap_alloc_new w.drew _) hG hG2 ?_ hnl ?_, ⟨rfl, rfl, rfl, by simp only [World.size_alloc]; exact Nat.le_succ _, fun k hk _ => heap_alloc_old w.drew _ hk⟩, .inr rfl⟩
          · rw [Array.size_append, size_zeroCells, List.size_toArray, List.length_append]
            show _ + 1 + _ * 1 = _
            omega
          · intro j hj
            rw [Array.getElem?_append_left (by simp; omega), List.getElem?_toArray, put_at ps x i (by omega)]
            by_cases e : j < i
            · rw [if_pos e, List.getElem?_append_left (by omega)]
            · have : j = i := by omega
              subst this
              rw [if_neg e, if_pos rfl, List.getElem?_append_right (by omega), hpl, Nat.sub_self]
              rfl
    · have hlt : i < n := by omega
      have hdl : (ps.drop i).length = n - i := by rw [List.length_drop]; omega
      by_cases hroom : n + 1 ≤ cap
      · have hne : vb ≠ g := fun e => hvb (by rw [e]; rfl)
        refine (ins_shift g 0 n cap i vb 0 1 c1 ps [x] w hlt (by omega) hroom (by unfold maxLen at hcm; omega) hne hpl rfl (fun j v h => by rw [Nat.zero_add, hcell]; exact hpj j v h) (fun j hj => ?_) (fun j _ => blk_frozen hg _) hvs h1c h1v 58 58 1 cap ?_ ?_ (by omega) (blk_frozen hv _) (blk_frozen hv _)).mono ?_
        · rw [Nat.zero_add, hcell, Array.getElem?_eq_getElem (by omega)]; rfl
        · unfold World.shape?; rw [hv]; rfl
        · unfold World.shape?; rw [hg]; rw [← hsz]
        · rintro e w' ⟨rfl, rfl⟩
          refine ⟨_, rfl, owns_of hbg (heap_setCells [x] _ _ (0 + i) (heap_setCells (ps.drop i) w.drew cur (0 + (i + 1)) hg)) hroom hcm (by rw [putL_size, putL_size]; exact hsz) hnl ?_,
            grown_trans (b := w.drew.setCells g (0 + (i + 1)) (ps.drop i)) (grown_trans (b := w.drew) ⟨rfl, rfl, rfl, Nat.le_refl _, fun _ _ _ => rfl⟩ (grown_sets g _ w.drew _) (fun k e => .inl e)) (grown_sets g [x] _ _) (fun k e => .inl e), .inl rfl⟩
          intro j hj
          rw [putL_at _ _ _ _ (by rw [putL_size]; simp; omega), putL_at _ _ _ _ (by rw [hdl]; omega), put_at ps x i (by omega), hdl]
          simp only [List.length_singleton, Nat.zero_add]
          by_cases e : j < i
          · rw [if_neg (by omega), if_neg (by omega), if_pos e, hpn j (by omega)]
          · by_cases e2 : j = i
            · subst e2
              rw [if_pos (by omega), if_neg e, if_pos rfl]
              simp
            · rw [if_neg (by omega), if_pos (by omega), if_neg e, if_neg e2, List.getElem?_drop]
              congr 1
              omega
      · refine (ins_grow g 0 n cap i vb 0 1 c1 ps [x] w hlt (by omega) hnc (by omega) (by omega) hpl rfl (fun j v h => by rw [Nat.zero_add, hcell]; exact hpj j v h) hvs h1c h1v).mono ?_
        rintro e w' ⟨rfl, rfl⟩
        have hG := grownCap_ge w (n + 1) cap 58
        have hG2 := grownCap_le_maxLen w (n + 1) cap 58 (by unfold maxLen; omega)
        have hrl : ((ps.take i).toArray ++ Builtin.zeroCells (Value.pointer none).cells (n + 1 - i) ++ Builtin.zeroCells (Value.pointer none).cells (grownCap w (n + 1) cap 58 - (n + 1))).size = grownCap w (n + 1) cap 58 := by
          rw [Array.size_append, Array.size_append, size_zeroCells, size_zeroCells, List.size_toArray, List.length_take]
          show min i ps.length + _ * 1 + _ * 1 = _
          omega
        refine ⟨_, rfl, owns_of hb (heap_setCells (ps.drop i) _ _ (i + 1) (heap_setCells [x] ((w.alloc _).drew) _ i (heap_alloc_new w _))) hG hG2 (by rw [putL_size, putL_size]; exact hrl) hnl ?_, ?_, .inr rfl⟩
        · intro j hj
          rw [putL_at _ _ _ _ (by rw [putL_size, hrl, hdl]; omega), putL_at _ _ _ _ (by rw [hrl]; simp; omega), put_at ps x i (by omega), hdl]
          simp only [List.length_singleton]
          by_cases e : j < i
          · rw [if_neg (by omega), if_neg (by omega), if_pos e]
            have ht : (ps.take i).length = i := by rw [List.length_take]; omega
            rw [Array.append_assoc, Array.getElem?_append_left (by rw [List.size_toArray]; omega), List.getElem?_toArray, List.getElem?_take, if_pos e]
          · by_cases e2 : j = i
            · subst e2
              rw [if_neg (by omega), if_pos (by omega), if_neg e, if_pos rfl]
              simp
            · rw [if_pos (by omega), if_neg e, if_neg e2, List.getElem?_drop]
              congr 1
              omega
        · have h1 : w.grownBy (w.alloc (.cells ((ps.take i).toArray ++ Builtin.zeroCells (Value.pointer none).cells (n + 1 - i) ++ Builtin.zeroCells (Value.pointer none).cells (grownCap w (n + 1) cap 58 - (n + 1))) 58)) (some g) := World.grownBy_alloc _ _ _
          have h2 := grown_sets w.heap.size [x] (w.alloc (.cells ((ps.take i).toArray ++ Builtin.zeroCells (Value.pointer none).cells (n + 1 - i) ++ Builtin.zeroCells (Value.pointer none).cells (grownCap w (n + 1) cap 58 - (n + 1))) 58)).drew i
          have h3 := grown_trans h1 ⟨h2.os, h2.tape, h2.output, h2.size, h2.block⟩ (fun k e => .inr (by cases e; exact Nat.le_refl _))
          have h4 := grown_sets w.heap.size (ps.drop i) ((w.alloc (.cells ((ps.take i).toArray ++ Builtin.zeroCells (Value.pointer none).cells (n + 1 - i) ++ Builtin.zeroCells (Value.pointer none).cells (grownCap w (n + 1) cap 58 - (n + 1))) 58)).drew.setCells w.heap.size i [x]).drew (i + 1)
          exact grown_trans h3 ⟨h4.os, h4.tape, h4.output, h4.size, h4.block⟩ (fun k e => .inr (by cases e; exact Nat.le_refl _))
end Go.Proofs.Ytkaeglnnahecjaa.T
