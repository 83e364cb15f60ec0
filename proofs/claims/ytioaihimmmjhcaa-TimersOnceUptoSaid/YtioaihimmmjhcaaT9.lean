/- timers: (*Wheel).Set at memory. -/
import Derived.Test.YtioaihimmmjhcaaT8
import Derived.Maps.Own
import Derived.Maps.OwnOps
import Derived.Maps.OwnSet
set_option linter.unusedVariables false
set_option linter.unusedSimpArgs false
namespace Go.Proofs.Ytioaihimmmjhcaa.T
open Go.RowKit Go.Maps Go.Proofs.YtioaihimmmjhcaaW.PrintWords

/-- how an entry of the wheel's map reads: is there a timer? -/
def RB (v : Value) : Option (DataW Unit × List MemPlace) := match v with
  | .pointer none => some (.lit (.bool false), [])
  | .pointer (some _) => some (.lit (.bool true), [])
  | _ => none
theorem law3 : Keyed Try.prog 3 := int_keyed Try.underlying3
theorem zero44 (w : World) : (zeroValue 44).run Try.prog w = .ok (.pointer none) w := by kernel_rfl
abbrev idL (id : Int) : Lit := .int .i64 id

theorem Fr.ofGrown {S : List Nat} {w w' : World} {row : Option Nat} (h : w.grownBy w' row) (hs : ∀ x, row = some x → x ∈ S) : Fr S w w' :=
  ⟨h.os, h.tape, h.output, h.size, fun k hk hn => h.block k hk (fun e => hn (hs k e.symm))⟩
theorem Fr.alloc (w : World) (o : Obj) : Fr [] w (w.alloc o) := ⟨rfl, rfl, rfl, by simp only [World.size_alloc]; omega, fun k hk _ => Below.heap_alloc w o k hk⟩
theorem mem_rowOf {v : Value} {x : Nat} : x ∈ rowOf v ↔ v.ownBlock = some x := by
  unfold rowOf
  cases h : v.ownBlock with
  | none => simp
  | some L => simp; exact eq_comm
theorem LineIs.fr {w w' : World} {v : Value} {ts : List (Nat × Tm)} {S : List Nat} (h : LineIs w v ts) (f : Fr S w w') (hs : ∀ x ∈ rowOf v ++ ts.map (·.1), x ∉ S) : LineIs w' v ts := by
  rcases h with ⟨rfl, rfl⟩ | ⟨L, cap, rfl, hL, hcm⟩
  · exact .inl ⟨rfl, rfl⟩
  · refine .inr ⟨L, cap, rfl, hL.fr f (fun x hx => hs x ?_), hcm⟩
    rcases List.mem_cons.1 hx with h | h
    · exact List.mem_append.2 (.inl (mem_rowOf.2 (by rw [h]; rfl)))
    · exact List.mem_append.2 (.inr h)
/-- every block of a line holds cells -/
theorem LineIs.cells {w : World} {v : Value} {ts : List (Nat × Tm)} (h : LineIs w v ts) (x : Nat) (hx : x ∈ rowOf v ++ ts.map (·.1)) : ∃ cs t, w.heap[x]? = some (.cells cs t (0, 0)) := by
  rcases h with ⟨rfl, rfl⟩ | ⟨L, cap, rfl, hL, hcm⟩
  · simp [rowOf, Value.ownBlock] at hx
  · rcases List.mem_append.1 hx with h | h
    · have e := mem_rowOf.1 h
      simp [Value.ownBlock] at e
      subst e
      obtain ⟨r, hr, _⟩ := hL.row
      exact ⟨_, _, hr⟩
    · obtain ⟨y, hy, rfl⟩ := List.mem_map.1 h
      obtain ⟨i, hi, rfl⟩ := List.getElem_of_mem hy
      obtain ⟨pl, hp⟩ := hL.timers i hi
      exact ⟨_, _, hp⟩
theorem ownsMap_heap {w w' : World} {M k : Nat} {D : DataW Unit} (h : w.ownsMap Try.prog 3 RB M k D) (e : w'.heap[M]? = w.heap[M]?) : w'.ownsMap Try.prog 3 RB M k D := by
  obtain ⟨es, clock, hb, F, hs, hD⟩ := h
  exact ⟨es, clock, e.trans hb, F, hs, hD⟩
theorem ownsMap_ne {w : World} {M k x : Nat} {D : DataW Unit} {cs : Array Value} {t : TypeId} (h : w.ownsMap Try.prog 3 RB M k D) (hx : w.heap[x]? = some (.cells cs t (0, 0))) : M ≠ x := by
  rintro rfl
  obtain ⟨es, clock, hb, _⟩ := h
  rw [hx] at hb
  simp at hb

set_option maxHeartbeats 4000000 in
set_option maxRecDepth 100000 in
theorem wset (w : World) (b M k : Nat) (ts : List (Nat × Tm)) (id at_ now sets most : Int) (v : Value) (D : DataW Unit) (hv : LineIs w v ts) (hz : ts.length < 3000000000000)
    (hW : w.heap[b]? = some (WheelObj now sets most v (.map (some M)))) (hM : w.ownsMap Try.prog 3 RB M k D) (hk : k < 3000000000000) (hid : (idL id).wf = true)
    (hfree : D.atKey (idL id) (.lit (.bool false)) = .lit (.bool false)) (hroom : (ts.length : Int) < most) (hvb : v.ownBlock ≠ some b) (hbts : b ∉ ts.map (·.1)) :
    Calls Try.prog 8 #[.pointer (some ⟨b, 0, none⟩), .int .i64 id, .int .u64 at_] w fun e w' => e = .returned (.int .i64 0) ∧
      ∃ L cap, w'.heap[b]? = some (WheelObj now (IntKind.u64.wrap (sets + 1)) most (.slice (some ⟨L, 0, none⟩) (ts.length + 1) cap) (.map (some M))) ∧
        LineAt w' L cap (upL (ts ++ [(w.heap.size, ⟨at_, sets, id⟩)]) ts.length) ∧ cap ≤ maxLen ∧ w'.ownsMap Try.prog 3 RB M (k + 1) (D.put (idL id) (.lit (.bool true))) ∧
        (v.ownBlock = some L ∨ w.heap.size ≤ L) ∧ Fr (b :: M :: (rowOf v ++ ts.map (·.1))) w w' := by
  obtain ⟨p, c, hvv⟩ : ∃ p c, v = .slice p ts.length c := by
    rcases hv with ⟨rfl, rfl⟩ | ⟨L, cap, rfl, _⟩
    · exact ⟨_, _, rfl⟩
    · exact ⟨_, _, rfl⟩
  have c1 : w.cell? ⟨b, 1, none⟩ = some (.int .u64 sets) := by rw [Lib.cell_of_heap hW]; rfl
  have c2 : w.cell? ⟨b, 2, none⟩ = some (.int .i64 most) := by rw [Lib.cell_of_heap hW]; rfl
  have c3 : w.cell? ⟨b, 3, none⟩ = some (.slice p ts.length c) := by rw [Lib.cell_of_heap hW, ← hvv]; rfl
  have c4 : w.cell? ⟨b, 4, none⟩ = some (.map (some M)) := by rw [Lib.cell_of_heap hW]; rfl
  have f1 : w.frozen? ⟨b, 1, none⟩ = false := blk_frozen hW 1
  obtain ⟨u, ps, hl, hu⟩ := hM.lookup law3 Try.underlying39 (zero44 w) (zd := .lit (.bool false)) (zp := []) rfl (keyOf_int_mk Try.underlying3 hid)
  rw [hfree] at hu
  have hu2 : u = .pointer none := by
    unfold RB at hu
    split at hu
    · rfl
    · simp at hu
    · simp at hu
  subst hu2
  have hbl : b < w.heap.size := blk_lt hW
  have hMl : M < w.heap.size := hM.lt
  have HM := Aside0.mk hM
  have HW := Aside0.mk hW
  have HV := Aside0.mk hv
  have HX := Aside0.mk (And.intro hvb (And.intro hbts hvv))
  clear hM hW hv hu hfree
  go_enter Try.func8, Try.ntmps8
  go_wp2_with fail
  go_region
  go_wp2_with fail
  have hMb : M ≠ b := ownsMap_ne HM.out HW.out
  have hM1 := ((HM.out.setCell (a := ⟨b, 1, none⟩) hMb (.int .u64 (IntKind.u64.wrap (sets + 1)))).alloc (.cells #[.int .u64 at_, .int .u64 sets, .int .i64 id, .int .i64 0] 46)).drew
  obtain ⟨w2, hrun, hM2, hg2⟩ := hM1.update law3 Try.underlying39 (by unfold maxLen; omega) (keyOf_int_mk Try.underlying3 hid) (val := .pointer (some ⟨w.heap.size, 0, none⟩)) (d := .lit (.bool true)) (ps := []) rfl
  rw [hrun]
  have hsz0 : (w.setCell ⟨b, 1, none⟩ (.int .u64 (IntKind.u64.wrap (sets + 1)))).heap.size = w.heap.size := by simp [World.setCell]
  have F2 : Fr [b, M] w w2 := by
    have h1 : Fr [b, M] w (w.setCell ⟨b, 1, none⟩ (.int .u64 (IntKind.u64.wrap (sets + 1)))) := (Fr.set w b 1 _).mono (by simp)
    have h2 := h1.trans ((Fr.alloc _ (.cells #[.int .u64 at_, .int .u64 sets, .int .i64 id, .int .i64 0] 46)).mono (S' := [b, M]) (by simp))
    exact h2.drew.trans (Fr.ofGrown hg2 (by intro x hx; simp at hx; simp [hx]))
  have hb2 : w2.heap[b]? = some (WheelObj now (IntKind.u64.wrap (sets + 1)) most v (.map (some M))) := by
    rw [hg2.block b (by simp [World.alloc, World.setCell]; omega) (by simp; exact fun e => hMb e.symm)]
    show (World.alloc _ _).heap[b]? = _
    rw [Below.heap_alloc _ _ b (by rw [hsz0]; exact hbl)]
    exact blk_put HW.out 1 _ rfl
  have ht2 : w2.heap[w.heap.size]? = some (tmObj ⟨at_, sets, id⟩ 0) := by
    rw [hg2.block w.heap.size (by simp [World.alloc, World.setCell]) (by simp; omega)]
    show (World.alloc _ _).heap[w.heap.size]? = _
    have := blk_new (w.setCell ⟨b, 1, none⟩ (.int .u64 (IntKind.u64.wrap (sets + 1)))) (.cells #[.int .u64 at_, .int .u64 sets, .int .i64 id, .int .i64 0] 46)
    rw [hsz0] at this
    exact this
  have hlt : ∀ x ∈ rowOf v ++ ts.map (·.1), x < w.heap.size ∧ x ≠ M ∧ x ≠ b := by
    intro x hx
    obtain ⟨cs, t, hc⟩ := HV.out.cells x hx
    refine ⟨blk_lt hc, fun e => ownsMap_ne HM.out hc e.symm, fun e => ?_⟩
    subst e
    rcases List.mem_append.1 hx with h | h
    · exact HX.out.1 (mem_rowOf.1 h)
    · exact HX.out.2.1 h
  have hv2 : LineIs w2 v ts := HV.out.fr F2 (fun x hx h => by
    obtain ⟨_, h1, h2⟩ := hlt x hx
    simp at h
    rcases h with h | h
    · exact h2 h
    · exact h1 h)
  have hp := Aside0.mk (heapPush w2 b w.heap.size ts ⟨at_, sets, id⟩ now (IntKind.u64.wrap (sets + 1)) most 0 v (.map (some M)) hv2 hz hb2 ht2
    (fun h => by have := (hlt _ (List.mem_append.2 (.inr h))).1; omega) (fun h => by have := (hlt _ (List.mem_append.2 (.inl (mem_rowOf.2 h)))).1; omega) HX.out.1 HX.out.2.1)
  have HF := Aside0.mk (And.intro F2 (And.intro hM2 (And.intro hlt (And.intro hMb hg2.size))))
  clear hM1 hrun hM2 hg2 F2 hb2 ht2 hlt hv2 hMb hsz0
  go_upon
  go_wp2_with (go_at_call 15; refine hp.out.mono ?_)
  rintro e w3 ⟨rfl, L, cap, hb3, hL3, hcm, hLr, F3⟩
  obtain ⟨F2, hM2, hlt, hMb, hsz⟩ := HF.out
  have hsz2 : w.heap.size ≤ w2.heap.size := F2.size
  have hMn : M ∉ b :: w.heap.size :: (rowOf v ++ ts.map (·.1)) := by
    intro h
    rcases List.mem_cons.1 h with h | h
    · exact hMb h
    · rcases List.mem_cons.1 h with h | h
      · omega
      · exact (hlt M h).2.1 rfl
  have fin : LineAt w3 L cap (upL (ts ++ [(w.heap.size, ⟨at_, sets, id⟩)]) ts.length) ∧ cap ≤ maxLen ∧ w3.ownsMap Try.prog 3 RB M (k + 1) (D.put (idL id) (.lit (.bool true))) ∧
        (v.ownBlock = some L ∨ w.heap.size ≤ L) ∧ Fr (b :: M :: (rowOf v ++ ts.map (·.1))) w w3 := by
    refine ⟨hL3, hcm, ownsMap_heap hM2 (F3.block M hM2.lt hMn), ?_, ?_⟩
    · rcases hLr with h | h
      · exact .inl h
      · exact .inr (by omega)
    · refine (F2.mono (S' := b :: M :: (rowOf v ++ ts.map (·.1))) (by intro x hx; simp at hx; rcases hx with h | h <;> simp [h])).over F3 (fun x hx => ?_)
      rcases List.mem_cons.1 hx with h | h
      · left; simp [h]
      · rcases List.mem_cons.1 h with h | h
        · right; omega
        · left; exact List.mem_cons_of_mem _ (List.mem_cons_of_mem _ h)
  have FIN := Aside0.mk fin
  have HB3 := Aside0.mk hb3
  clear F2 hM2 hlt hMb hsz hsz2 hMn fin hb3 hL3 hcm hLr F3
  go_wp2_with fail
  go_ret
  exact ⟨rfl, L, cap, HB3.out, FIN.out⟩
end Go.Proofs.Ytioaihimmmjhcaa.T
