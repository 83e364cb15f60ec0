/- timers: (*line).Push at memory. -/
import Derived.Test.YtioaihimmmjhcaaT6
set_option linter.unusedVariables false
set_option linter.unusedSimpArgs false
namespace Go.Proofs.Ytioaihimmmjhcaa.T
open Go.RowKit Go.Proofs.YtioaihimmmjhcaaW.PrintWords

def ptrOf (x : Nat × Tm) : Value := .pointer (some ⟨x.1, 0, none⟩)
/-- the block of a line's row -/
def rowOf (v : Value) : List Nat := match v.ownBlock with | some L => [L] | none => []
theorem LineIs.owns {w : World} {v : Value} {ts : List (Nat × Tm)} (h : LineIs w v ts) : w.ownsRow 0 44 1 v ts.length (ts.map ptrOf) := by
  rcases h with ⟨rfl, rfl⟩ | ⟨L, cap, rfl, hL, hcm⟩
  · exact ⟨by simp, .inl ⟨rfl, rfl⟩⟩
  · have hc := hL.le_cap
    obtain ⟨r, hr, hl, hp⟩ := hL.row
    refine ⟨by simp, .inr ⟨L, cap, r.toArray, rfl, Nat.zero_le _, hr, hc, hcm, by simp [hl], ?_⟩⟩
    apply List.ext_getElem?
    intro i
    simp only [Nat.mul_one]
    by_cases hi : i < ts.length
    · rw [List.getElem?_take_of_lt hi, List.getElem?_map, List.getElem?_eq_getElem hi]
      simpa [ptrOf] using hp i hi
    · rw [List.getElem?_eq_none (by simp; omega), List.getElem?_eq_none (by simp; omega)]
theorem LineIs.timers {w : World} {v : Value} {ts : List (Nat × Tm)} (h : LineIs w v ts) : (∀ i (h : i < ts.length), TimerAt w ts[i].1 ts[i].2) ∧ (ts.map (·.1)).Nodup ∧ (∀ i (h : i < ts.length), v.ownBlock ≠ some ts[i].1) := by
  rcases h with ⟨rfl, rfl⟩ | ⟨L, cap, rfl, hL, hcm⟩
  · exact ⟨by simp, by simp, by simp⟩
  · exact ⟨hL.timers, hL.nodup, fun i hi e => hL.apart i hi (by simpa [Value.ownBlock] using e.symm)⟩

set_option maxHeartbeats 4000000 in
set_option maxRecDepth 100000 in
theorem linePush (w : World) (b tb : Nat) (ts : List (Nat × Tm)) (t : Tm) (now sets most pl : Int) (v m : Value) (hv : LineIs w v ts) (hz : ts.length < 4000000000000)
    (hW : w.heap[b]? = some (WheelObj now sets most v m)) (hT : w.heap[tb]? = some (tmObj t pl)) (hne : tb ∉ ts.map (·.1)) (hvt : v.ownBlock ≠ some tb) (hvb : v.ownBlock ≠ some b) (hbts : b ∉ ts.map (·.1)) :
    Calls Try.prog 40 #[.pointer (some ⟨b, 3, none⟩), .iface 44 (.pointer (some ⟨tb, 0, none⟩))] w fun e w' => e = .returned (.tuple #[]) ∧
      ∃ L cap, w'.heap[b]? = some (WheelObj now sets most (.slice (some ⟨L, 0, none⟩) (ts.length + 1) cap) m) ∧ LineAt w' L cap (ts ++ [(tb, t)]) ∧ cap ≤ maxLen ∧ (v.ownBlock = some L ∨ w.heap.size ≤ L) ∧ Fr (b :: tb :: rowOf v) w w' := by
  obtain ⟨p, c, hvv⟩ : ∃ p c, v = .slice p ts.length c := by
    rcases hv with ⟨rfl, rfl⟩ | ⟨L, cap, rfl, _⟩
    · exact ⟨_, _, rfl⟩
    · exact ⟨_, _, rfl⟩
  have c3 : w.cell? ⟨b, 3, none⟩ = some (.slice p ts.length c) := by rw [Lib.cell_of_heap hW, ← hvv]; rfl
  have f3 : w.frozen? ⟨b, 3, none⟩ = false := blk_frozen hW 3
  have k3 : w.cell? ⟨tb, 3, none⟩ = some (.int .i64 pl) := by rw [Lib.cell_of_heap hT]; rfl
  have g3 : w.frozen? ⟨tb, 3, none⟩ = false := blk_frozen hT 3
  have hbt : b ≠ tb := blk_ne hW hT (by decide)
  have HW := Aside0.mk hW
  have HT := Aside0.mk hT
  have HV := Aside0.mk hv
  have HX := Aside0.mk (And.intro hne (And.intro hvt (And.intro hvb hbts)))
  have HVV := Aside0.mk hvv
  clear hW hT hv hne hvt hvb hbts hvv
  go_enter Try.func40, Try.ntmps40
  go_wp2_with fail
  rw [m_assert]
  go_upon
  have g1 : Aside0 (w.grownBy (w.setCell ⟨tb, 3, none⟩ (.int .i64 ts.length)) (some tb)) := ⟨rfl, rfl, rfl, by simp [World.setCell], fun k hk hs => Below.heap_setCell _ _ _ k (fun e => hs (by rw [e]))⟩
  have o1 : Aside0 ((w.setCell ⟨tb, 3, none⟩ (.int .i64 ts.length)).ownsRow 0 44 1 (.slice p ts.length c) ts.length (ts.map ptrOf)) := ⟨by rw [← HVV.out]; exact HV.out.owns.kept g1.out (.inr HX.out.2.1)⟩
  go_wp2_with (at_builtin; refine wpList_app1 rfl _ _ rfl _ _ ts.length (ts.map ptrOf) rfl (o1.out.alloc _) ⟨w.heap.size, 0, none⟩ 1 (.pointer (some ⟨tb, 0, none⟩)) ?_ ?_ rfl ?_ ?_)
  · rfl
  · have e : w.heap.size = (w.setCell ⟨tb, 3, none⟩ (.int .i64 ts.length)).heap.size := by simp [World.setCell]
    have e2 : (⟨w.heap.size, 0, none⟩ : Addr) = ⟨(w.setCell ⟨tb, 3, none⟩ (.int .i64 ts.length)).heap.size, 0, none⟩ := by rw [← e]
    rw [e2, blk_cell (blk_new _ _)]
    rfl
  · exact hz
  · intro L cap w' ho hg hL
    have hsz : (((w.setCell ⟨tb, 3, none⟩ (.int .i64 ts.length)).alloc (.cells #[.pointer (some ⟨tb, 0, none⟩)] 44)).heap.size) = w.heap.size + 1 := by simp [World.alloc, World.setCell]
    -- what was there stays, but the timer's place and the row
    have keep : ∀ k, k < w.heap.size → k ≠ tb → v.ownBlock ≠ some k → w'.heap[k]? = w.heap[k]? := by
      intro k hk h1 h2
      rw [hg.block k (by rw [hsz]; omega) (by rw [← HVV.out]; exact fun e => h2 e.symm)]
      rw [Below.heap_alloc _ _ k (by simp [World.setCell]; exact hk)]
      exact Below.heap_setCell _ _ _ k h1
    have hb' : w'.heap[b]? = some (WheelObj now sets most v m) := (keep b (blk_lt HW.out) hbt HX.out.2.2.1).trans HW.out
    have ht' : w'.heap[tb]? = some (tmObj t ts.length) := by
      rw [hg.block tb (by rw [hsz]; have := blk_lt HT.out; omega) (by rw [← HVV.out]; exact fun e => HX.out.2.1 e.symm)]
      rw [Below.heap_alloc _ _ tb (by simp [World.setCell]; exact blk_lt HT.out)]
      exact blk_put HT.out 3 _ rfl
    have hbL : b ≠ L := by
      rcases hL with h | h
      · intro e; exact HX.out.2.2.1 (by rw [HVV.out, h, e])
      · have := blk_lt HW.out; omega
    have c3' : w'.cell? ⟨b, 3, none⟩ = some v := by rw [Lib.cell_of_heap hb']; rfl
    have f3' : w'.frozen? ⟨b, 3, none⟩ = false := blk_frozen hb' 3
    have hL2 := Aside0.mk hL
    have ho2 := Aside0.mk ho
    have hg2 := Aside0.mk hg
    have keep2 := Aside0.mk keep
    have hb2 := Aside0.mk hb'
    have ht2 := Aside0.mk ht'
    have hbL2 := Aside0.mk hbL
    clear hL ho hg keep hb' ht' hbL
    go_wp2_with fail
    go_end0
    obtain ⟨_, h0 | ⟨g, cap', cur, hgv, _, hcur, hnc, hcm, hcs, htake⟩⟩ := ho2.out
    · exact absurd h0.1 (by simp)
    · simp only [Value.slice.injEq, Option.some.injEq, Addr.mk.injEq, and_true, true_and] at hgv
      obtain ⟨rfl, rfl⟩ := hgv
      have hn1 : (ts ++ [(tb, t)]).length = ts.length + 1 := by simp
      have hLts : ∀ k, k < ts.length → ∀ hk : k < ts.length, ts[k].1 ≠ L := by
        intro k _ hk e
        rcases hL2.out with h | h
        · exact HV.out.timers.2.2 k hk (by rw [HVV.out, h, e])
        · obtain ⟨pl', hp⟩ := HV.out.timers.1 k hk
          have := blk_lt hp
          omega
      have htL : tb ≠ L := by
        intro e
        rcases hL2.out with h | h
        · exact HX.out.2.1 (by rw [HVV.out, h, e])
        · have := blk_lt HT.out
          omega
      refine ⟨rfl, L, cap, blk_put hb2.out 3 _ rfl, ⟨⟨cur.toList, ?_, by simpa using hcs, ?_⟩, ?_, ?_, ?_⟩, hcm, ?_, ?_⟩
      · show (w'.setCell _ _).heap[L]? = _
        rw [Below.heap_setCell _ _ _ L (fun e => hbL2.out e.symm)]
        exact hcur
      · intro i hi
        have h1 : (cur.toList.take (ts.length + 1))[i]? = (ts.map ptrOf ++ [ptrOf (tb, t)])[i]? := by
          have := htake
          rw [Nat.mul_one] at this
          rw [this]
          rfl
        rw [List.getElem?_take_of_lt (by omega)] at h1
        rw [h1]
        have h2 : ts.map ptrOf ++ [ptrOf (tb, t)] = (ts ++ [(tb, t)]).map ptrOf := by simp
        rw [h2, List.getElem?_map, List.getElem?_eq_getElem hi]
        rfl
      · intro i hi
        by_cases hlt : i < ts.length
        · rw [List.getElem_append_left hlt]
          obtain ⟨pl', hp⟩ := HV.out.timers.1 i hlt
          refine ⟨pl', ?_⟩
          have hm : ts[i].1 ∈ ts.map (·.1) := List.mem_map.2 ⟨ts[i], List.getElem_mem hlt, rfl⟩
          show (w'.setCell _ _).heap[ts[i].1]? = _
          rw [Below.heap_setCell _ ⟨b, 3, none⟩ _ _ (fun (e : ts[i].1 = b) => HX.out.2.2.2 (by rw [← e]; exact hm))]
          exact (keep2.out _ (blk_lt hp) (fun e => HX.out.1 (e ▸ hm)) (HV.out.timers.2.2 i hlt)).trans hp
        · have : i = ts.length := by omega
          subst this
          rw [List.getElem_append_right (by omega)]
          simp only [Nat.sub_self, List.getElem_cons_zero]
          refine ⟨ts.length, ?_⟩
          show (w'.setCell _ _).heap[tb]? = _
          rw [Below.heap_setCell _ _ _ _ (fun e => hbt e.symm)]
          exact ht2.out
      · intro i hi
        by_cases hlt : i < ts.length
        · rw [List.getElem_append_left hlt]
          exact hLts i hlt hlt
        · have : i = ts.length := by omega
          subst this
          rw [List.getElem_append_right (by omega)]
          simpa using htL
      · rw [List.map_append, List.nodup_append]
        refine ⟨HV.out.timers.2.1, by simp, ?_⟩
        intro x hx y hy e
        simp at hy
        subst hy
        exact HX.out.1 (e ▸ hx)
      · rcases hL2.out with h | h
        · exact .inl (by rw [HVV.out, h])
        · exact .inr (by omega)
      · refine ⟨hg2.out.os, hg2.out.tape, hg2.out.output, ?_, fun k hk hs => ?_⟩
        · have := hg2.out.size
          show w.heap.size ≤ (w'.setCell _ _).heap.size
          simp only [World.size_setCell]
          omega
        · have hk1 : k ≠ b := fun e => hs (by simp [e])
          have hk2 : k ≠ tb := fun e => hs (by simp [e])
          show (w'.setCell _ _).heap[k]? = _
          rw [Below.heap_setCell _ _ _ k hk1]
          refine keep2.out k hk hk2 (fun e => hs ?_)
          simp [rowOf, e]
end Go.Proofs.Ytioaihimmmjhcaa.T
