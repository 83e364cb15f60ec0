/- radix: a new watch; slices.Clone; fresh. -/
import Derived.Test.YtkaeglnnahecjaaR3
import Derived.Conc.SmallLaws
import Derived.Deep.RegionHeld3
set_option linter.unusedVariables false
set_option linter.unusedSimpArgs false
namespace Go.Proofs.Ytkaeglnnahecjaa.T
open Go.RowKit Go.Proofs.YtkaeglnnahecjaaW.PrintWords

def watchObj (c : Nat) : Obj := .cells #[.int .u32 0, .int .i32 0, .int .u32 0, .chan (some c)] 165
theorem runNil (w : World) : (binOp .eql 123 (.slice none 0 0) (.slice none 0 0)).run Try.prog w = .ok (.bool true) w := by kernel_rfl
theorem runSome (w : World) (ad : Addr) (n c : Nat) : (binOp .eql 123 (.slice (some ad) n c) (.slice none 0 0)).run Try.prog w = .ok (.bool false) w := by kernel_rfl
theorem infoU : (Try.prog.info? 162).isSome = true := by kernel_rfl
theorem runChan (w : World) : (Instr.makeChan 163 (.int .i64 0)).run Try.prog w = .ok (.chan (some w.heap.size)) (w.alloc (.chan 0 #[] false 0 0 false)) := by kernel_rfl
set_option maxHeartbeats 4000000 in
set_option maxRecDepth 100000 in
theorem watchNew (w : World) : Calls Try.prog 50 #[] w fun e w' => e = .returned (ptr (w.heap.size + 1)) ∧ w' = (w.alloc (.chan 0 #[] false 0 0 false)).alloc (watchObj w.heap.size) := by
  go_enter Try.func50, Try.ntmps50
  go_wp2_with fail
  rw [runChan]
  go_upon
  go_wp2_with fail
  go_ret
  exact ⟨rfl, rfl⟩
theorem below_grown {B : Nat} {w w' : World} {row : Option Nat} (h : w.grownBy w' row) (hB : B ≤ w.heap.size) (hr : ∀ k, row = some k → B ≤ k) : Below B w w' :=
  ⟨h.os, h.tape, h.output, h.size, fun k hk => h.block k (by omega) (fun e => by have := hr k e.symm; omega)⟩
theorem leafPtr_form (o : Option Lf) : ∃ p, leafPtr o = .pointer p := by cases o with | none => exact ⟨_, rfl⟩ | some l => exact ⟨_, rfl⟩
theorem owns_form {w : World} {base e size n : Nat} {v : Value} {xs : List Value} (h : w.ownsRow base e size v n xs) : ∃ A c, v = .slice A n c := by
  rcases h.2 with ⟨rfl, rfl⟩ | ⟨g, cap, cur, rfl, _⟩
  · exact ⟨_, _, rfl⟩
  · exact ⟨_, _, rfl⟩
theorem cellA {w : World} {a : Addr} {v : Value} {o : Obj} (h : w.cell? a = some v) : (w.alloc o).cell? a = some v := (Kept.of ((Below.refl _ w).alloc (Nat.le_refl _) o)).cell h
theorem heap_new (w : World) (o : Obj) : (w.alloc o).heap[w.heap.size]? = some o := heap_alloc_new w o
theorem infoP : (Try.prog.info? 58).map (fun i => (i.zero, i.size, i.bytes)) = some (some (.pointer none), 1, 8) := by kernel_rfl
set_option maxHeartbeats 4000000 in
set_option maxRecDepth 100000 in
theorem clone (w : World) (kv : Value) (ps : List Value) (hr : Row w kv ps) (h1c : ∀ u ∈ ps, u.oneCell' = true) (hz : ps.length ≤ 256) :
    Calls Try.prog 119 #[kv] w fun e w' => ∃ v', e = .returned v' ∧ w'.ownsRow w.heap.size 58 1 v' ps.length ps ∧ Below w.heap.size w w' := by
  rcases hr with ⟨rfl, rfl⟩ | ⟨ad, c, rfl, hA⟩
  · go_enter Try.func119, Try.ntmps119
    go_wp2_with fail
    rw [runNil]
    go_upon
    go_wp2_with fail
    go_ret
    exact ⟨_, rfl, World.ownsRow_nil w w.heap.size 58 1, Below.refl _ _⟩
  · have own0 := Aside0.mk (show (w.alloc (.cells #[] 58)).ownsRow w.heap.size 58 1 (.slice (some ⟨w.heap.size, 0, none⟩) 0 0) 0 [] from World.ownsRow_lit (base := w.heap.size) (e := 58) (size := 1) w #[] 0 (Nat.le_refl _) (by decide) (by simp))
    obtain ⟨i0, hi, hz0, hz1, hz2⟩ := info_parts infoP
    have HA := Aside0.mk hA
    have H1 := Aside0.mk h1c
    obtain ⟨n, hn⟩ : ∃ n, ps.length = n := ⟨_, rfl⟩
    have HN := Aside0.mk hn
    rw [hn]
    rw [hn] at hz
    clear hA h1c hn
    go_enter Try.func119, Try.ntmps119
    go_wp2_with fail
    rw [runSome]
    go_upon
    go_wp2_with (at_builtin; refine wpList_append_own _ rfl _ _ 123 rfl w.heap.size 58 i0 (.pointer none) 1 8 Try.underlying123 hi hz0 hz1 hz2 rfl (by decide) (.slice (some ⟨w.heap.size, 0, none⟩) 0 0) 0 [] rfl own0.out ad n c ps rfl ?c1 ?c2 ?c3 ?c4 ?c5 ?c6 ?c7)
    case c1 => rw [HN.out]; simp
    case c2 =>
      intro j u hj
      obtain ⟨hj1, hj2⟩ := List.getElem?_eq_some_iff.1 hj
      have := HA.out j hj1
      rw [hj2] at this
      exact (Kept.of ((Below.refl _ w).alloc (Nat.le_refl _) _)).cell this
    case c3 => exact H1.out
    case c4 => unfold maxLen; omega
    case c5 => omega
    case c6 => simp only [World.size_alloc]; omega
    intro v' w' ho hg _
    go_wp2_with fail
    go_ret
    exact ⟨_, rfl, ho, ((Below.refl _ w).alloc (Nat.le_refl _) _).trans (below_grown hg (by simp only [World.size_alloc]; omega) (fun k hk => by simp [Value.ownBlock] at hk; omega))⟩
/-- fresh: a copy of the node n, in a new block with a new watch and kids in a row of their own -/
structure FreshAt (w w' : World) (n : Nd) (b : Nat) (kv m : Value) : Prop where
  new : w.heap.size ≤ b
  blk : w'.heap[b]? = some (.cells #[.string n.label, leafPtr n.leaf, kv, m] 125 (0, 0))
  row : w'.ownsRow w.heap.size 58 1 kv n.kids.length (ptrs n.kids)
  off : kv.ownBlock ≠ some b
  mark : ∃ c, m = ptr (c + 1) ∧ w.heap.size ≤ c ∧ w'.heap[c]? = some (.chan 0 #[] false 0 0 false) ∧ w'.heap[c + 1]? = some (watchObj c)
  kept : Below w.heap.size w w'
set_option maxHeartbeats 4000000 in
set_option maxRecDepth 100000 in
theorem fresh (w : World) (n : Nd) (hn : NdAt w n) (hz : n.kids.length ≤ 256) :
    Calls Try.prog 97 #[ptr n.b] w fun e w' => ∃ b kv m, e = .returned (ptr b) ∧ FreshAt w w' n b kv m := by
  obtain ⟨kv, hb, hr, hl, hk⟩ := hn.parts
  have q1 := Aside0.mk (fun w1 (h : Row w1 kv (ptrs n.kids)) => clone w1 kv (ptrs n.kids) h (fun u hu => by obtain ⟨x, _, rfl⟩ := List.mem_map.1 hu; rfl) (by simpa [ptrs] using hz))
  have c0 : w.cell? ⟨n.b, 0, none⟩ = some (.string n.label) := by rw [blk_cell hb]; rfl
  have c1 : w.cell? ⟨n.b, 1, none⟩ = some (leafPtr n.leaf) := by rw [blk_cell hb]; rfl
  have c2 : w.cell? ⟨n.b, 2, none⟩ = some kv := by rw [blk_cell hb]; rfl
  have HB := Aside0.mk (And.intro hb (And.intro hr (And.intro hl hk)))
  clear hb hr hl hk
  obtain ⟨lp, elp⟩ := leafPtr_form n.leaf
  have HL := Aside0.mk elp
  rw [elp] at c1
  clear elp
  have elen : (ptrs n.kids).length = n.kids.length := by simp [ptrs]
  rw [elen] at q1
  clear elen
  unfold ptr
  go_enter Try.func97, Try.ntmps97
  go_wp2_with fail
  go_region_held3 (fun w' => w'.cell? ⟨n.b, 0, none⟩ = some (.string n.label) ∧ w'.cell? ⟨n.b, 1, none⟩ = some (.pointer lp) ∧ w'.cell? ⟨n.b, 2, none⟩ = some kv)
    (first | exact ⟨c0, c1, c2⟩ | exact ⟨d0, d1, d2⟩ | exact ⟨f0, f1, f2⟩ | exact ⟨cellA f0, cellA f1, cellA f2⟩)
    (first
      | (go_at_call 119; refine (q1.out _ ?_).mono ?_; (exact HB.out.2.1); rintro e w1 ⟨v1, rfl, o1, B1⟩; obtain ⟨A1, cp1, rfl⟩ := owns_form o1; have d0 := (Kept.of B1).cell c0; have d1 := (Kept.of B1).cell c1; have d2 := (Kept.of B1).cell c2; have HO := Aside0.mk (And.intro o1 B1); clear o1 B1)
      | (go_at_call 50; refine (watchNew _).mono ?_; rintro e w2 ⟨rfl, e2⟩; unfold ptr; have B2 : Below w1.heap.size w1 w2 := (by rw [e2]; exact ((Below.refl _ w1).alloc (Nat.le_refl _) _).alloc (by simp only [World.size_alloc]; omega) _); have f0 := (Kept.of B2).cell d0; have f1 := (Kept.of B2).cell d1; have f2 := (Kept.of B2).cell d2; have HW := Aside0.mk (And.intro e2 B2); clear e2 B2))
  go_wp2_with fail
  go_ret
  obtain ⟨e2, B2⟩ := HW.out
  obtain ⟨o1, B1⟩ := HO.out
  have s1 : w.heap.size ≤ w1.heap.size := B1.size
  have s2 : w2.heap.size = w1.heap.size + 2 := by rw [e2]; simp only [World.size_alloc]
  have k1 : Below w.heap.size w w1 := ⟨B1.os, B1.tape, B1.output, B1.size, B1.block⟩
  have k3 := (Below.refl w2.heap.size w2).alloc (Nat.le_refl _) (.cells #[.string n.label, .pointer lp, .slice A1 n.kids.length cp1, .pointer (some ⟨w1.heap.size + 1, 0, none⟩)] 125)
  have kk := Kept.of k3
  refine ⟨w2.heap.size, .slice A1 n.kids.length cp1, .pointer (some ⟨w1.heap.size + 1, 0, none⟩), rfl, ⟨by omega, ?_, ?_, ?_, ⟨w1.heap.size, rfl, by omega, ?_, ?_⟩, ?_⟩⟩
  · rw [HL.out]
    exact heap_new _ _
  · refine World.ownsRow.alloc ?_ _
    rw [e2]
    exact (o1.alloc _).alloc _
  · intro h
    have := (o1.lt _ h).2
    omega
  · refine kk.at ?_
    rw [e2]
    exact (Kept.of ((Below.refl _ (w1.alloc (.chan 0 #[] false 0 0 false))).alloc (Nat.le_refl _) _)).at (heap_new w1 _)
  · refine kk.at ?_
    rw [e2]
    have e3 : w1.heap.size + 1 = (w1.alloc (.chan 0 #[] false 0 0 false)).heap.size := by simp only [World.size_alloc]
    rw [e3]
    exact heap_new _ _
  · refine (k1.trans ?_).trans (⟨k3.os, k3.tape, k3.output, k3.size, fun k hk => k3.block k (by omega)⟩)
    exact ⟨B2.os, B2.tape, B2.output, B2.size, fun k hk => B2.block k (by omega)⟩
end Go.Proofs.Ytkaeglnnahecjaa.T
