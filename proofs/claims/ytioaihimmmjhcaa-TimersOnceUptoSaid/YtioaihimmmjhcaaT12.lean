/- timers: Set once more, over the wheel's one word; New and Next too. -/
import Derived.Test.YtioaihimmmjhcaaT11
set_option linter.unusedVariables false
set_option linter.unusedSimpArgs false
namespace Go.Proofs.Ytioaihimmmjhcaa.T
open Go.RowKit Go.Maps Go.Proofs.YtioaihimmmjhcaaW.PrintWords

theorem wheelSet (w : World) (b M k : Nat) (ts : List (Nat × Tm)) (id at_ now sets most : Int) (v : Value) (D : DataW Unit) (hw : Wf w b M now sets most v ts k D) (hz : ts.length < 3000000000000)
    (hk : k < 3000000000000) (hid : (idL id).wf = true) (hfree : D.atKey (idL id) (.lit (.bool false)) = .lit (.bool false)) (hroom : (ts.length : Int) < most) :
    Calls Try.prog 8 #[.pointer (some ⟨b, 0, none⟩), .int .i64 id, .int .u64 at_] w fun e w' => e = .returned (.int .i64 0) ∧
      ∃ v', Wf w' b M now (IntKind.u64.wrap (sets + 1)) most v' (upL (ts ++ [(w.heap.size, ⟨at_, sets, id⟩)]) ts.length) (k + 1) (D.put (idL id) (.lit (.bool true))) ∧
        (∀ x ∈ footOf v' (upL (ts ++ [(w.heap.size, ⟨at_, sets, id⟩)]) ts.length), x ∈ footOf v ts ∨ w.heap.size ≤ x) ∧ Fr (b :: M :: footOf v ts) w w' := by
  have hvb : v.ownBlock ≠ some b := fun h => hw.off (List.mem_append.2 (.inl (mem_rowOf.2 h)))
  have hbts : b ∉ ts.map (·.1) := fun h => hw.off (List.mem_append.2 (.inr h))
  refine (wset w b M k ts id at_ now sets most v D hw.line hz hw.blk hw.map hk hid hfree hroom hvb hbts).mono ?_
  rintro e w' ⟨rfl, L, cap, hb, hL, hcm, hM, hLr, F⟩
  have hperm := upL_perm (ts ++ [(w.heap.size, ⟨at_, sets, id⟩)]) ts.length (by simp)
  have hlen : (upL (ts ++ [(w.heap.size, ⟨at_, sets, id⟩)]) ts.length).length = ts.length + 1 := by rw [hperm.length_eq]; simp
  have hmem : ∀ x, x ∈ (upL (ts ++ [(w.heap.size, ⟨at_, sets, id⟩)]) ts.length).map (·.1) → x ∈ ts.map (·.1) ∨ x = w.heap.size := by
    intro x hx
    have := (hperm.map (·.1)).mem_iff.1 hx
    rw [List.map_append, List.mem_append] at this
    simpa using this
  refine ⟨rfl, .slice (some ⟨L, 0, none⟩) (ts.length + 1) cap, ⟨hb, .inr ⟨L, cap, by rw [hlen], hL, hcm⟩, hM, ?_⟩, ?_, F⟩
  · intro h
    rcases List.mem_append.1 h with h | h
    · have := mem_rowOf.1 h
      simp [Value.ownBlock] at this
      subst this
      obtain ⟨r, hr, _⟩ := hL.row
      exact blk_ne hb hr (by decide) rfl
    · rcases hmem b h with h | h
      · exact hbts h
      · have := blk_lt hw.blk; omega
  · intro x hx
    rcases List.mem_append.1 hx with h | h
    · have := mem_rowOf.1 h
      simp [Value.ownBlock] at this
      subst this
      rcases hLr with h | h
      · exact .inl (List.mem_append.2 (.inl (mem_rowOf.2 h)))
      · exact .inr h
    · rcases hmem x h with h | h
      · exact .inl (List.mem_append.2 (.inr h))
      · exact .inr (by omega)
theorem wheelNew (w : World) (most : Int) (h0 : 0 ≤ most) :
    Calls Try.prog 7 #[.int .i64 most] w fun e w' => ∃ b M, e = .returned (.pointer (some ⟨b, 0, none⟩)) ∧ w.heap.size ≤ b ∧ w.heap.size ≤ M ∧ Wf w' b M 0 0 most (.slice none 0 0) [] 0 (.map []) ∧ Fr [] w w' := by
  refine (wnew w most h0).mono ?_
  rintro e w' ⟨b, M, rfl, h1, h2, h3, h4, h5⟩
  exact ⟨b, M, rfl, h1, h2, ⟨h3, .inl ⟨rfl, rfl⟩, h4, by simp [rowOf, Value.ownBlock]⟩, h5⟩
theorem wheelNext (w : World) (b M k : Nat) (ts : List (Nat × Tm)) (now sets most : Int) (v : Value) (D : DataW Unit) (hw : Wf w b M now sets most v ts k D) (h : 0 < ts.length) :
    Calls Try.prog 14 #[.pointer (some ⟨b, 0, none⟩)] w fun e w' => e = .returned (.tuple #[.int .u64 (ts.getD 0 default).2.at_, .bool true]) ∧ Fr [] w w' ∧ w'.heap = w.heap := by
  rcases hw.line with ⟨_, h0⟩ | ⟨L, cap, hv, hL, _⟩
  · subst h0; simp at h
  · exact wnext w b L cap ts now sets most (.map (some M)) hL h (by rw [← hv]; exact hw.blk)
theorem Wf.heap {w w' : World} {b M k : Nat} {now sets most : Int} {v : Value} {ts : List (Nat × Tm)} {D : DataW Unit} (h : Wf w b M now sets most v ts k D) (e : w'.heap = w.heap) : Wf w' b M now sets most v ts k D := by
  refine ⟨by rw [e]; exact h.blk, ?_, ownsMap_heap h.map (by rw [e]), h.off⟩
  rcases h.line with h0 | ⟨L, cap, hv, hL, hc⟩
  · exact .inl h0
  · exact .inr ⟨L, cap, hv, hL.heap e, hc⟩
theorem Wf.fr {w w' : World} {b M k : Nat} {now sets most : Int} {v : Value} {ts : List (Nat × Tm)} {D : DataW Unit} {S : List Nat} (h : Wf w b M now sets most v ts k D) (f : Fr S w w') (hs : ∀ x ∈ b :: M :: footOf v ts, x ∉ S) : Wf w' b M now sets most v ts k D :=
  ⟨(f.block b (blk_lt h.blk) (hs b (by simp))).trans h.blk, h.line.fr f (fun x hx => hs x (List.mem_cons_of_mem _ (List.mem_cons_of_mem _ hx))), ownsMap_heap h.map (f.block M h.map.lt (hs M (by simp))), h.off⟩
end Go.Proofs.Ytioaihimmmjhcaa.T
