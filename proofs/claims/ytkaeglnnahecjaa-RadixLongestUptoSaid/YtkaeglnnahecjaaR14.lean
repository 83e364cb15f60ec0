/- radix: Longest, Reach, find, Get at memory. -/
import Derived.Test.YtkaeglnnahecjaaR13
set_option linter.unusedVariables false
set_option linter.unusedSimpArgs false
namespace Go.Proofs.Ytkaeglnnahecjaa.T
open Go.RowKit Go.Lib Go.Proofs Go.Proofs.YtkaeglnnahecjaaW.PrintWords

def stepL (s : Option Lf) (n : Nd) (_ : Nat) : Option Lf := if n.leaf.isSome then n.leaf else s
def stepF (k : ByteArray) (s : Option Lf) (n : Nd) (a : Nat) : Option Lf := if a = k.size then n.leaf else s
def stepR (_ : Nat) (_ : Nd) (a : Nat) : Nat := a
def InvL (wB : World) (cb : Nat) (s : Option Lf) (w : World) : Prop := w.heap[cb]? = some (.cells #[leafPtr s] 121 (0, 0)) ∧ LfAt wB s
def InvF (wB : World) (k : ByteArray) (kb cb : Nat) (s : Option Lf) (w : World) : Prop := w.heap[kb]? = some (.cells #[.string k] 9 (0, 0)) ∧ w.heap[cb]? = some (.cells #[leafPtr s] 121 (0, 0)) ∧ LfAt wB s
def InvR (k : ByteArray) (cb : Nat) (s : Nat) (w : World) : Prop := w.heap[cb]? = some (.cells #[.int .i64 (s : Int)] 3 (0, 0)) ∧ s ≤ k.size
theorem put_one (w : World) {cb : Nat} {t : TypeId} {old v : Value} (h : w.heap[cb]? = some (.cells #[old] t (0, 0))) : (w.setCell ⟨cb, 0, none⟩ v).heap[cb]? = some (.cells #[v] t (0, 0)) := heap_setCell w v h
theorem below_set (wB w : World) (cb : Nat) (hc : wB.heap.size ≤ cb) (v : Value) : Below wB.heap.size w (w.setCell ⟨cb, 0, none⟩ v) := kept_set (Below.refl _ w) cb hc 0 v
set_option maxHeartbeats 4000000 in
set_option maxRecDepth 100000 in
theorem callL (wB : World) (cb : Nat) (hcb : wB.heap.size ≤ cb) (s : Option Lf) (n : Nd) (a : Nat) (w1 : World) (hk : Kept wB w1) (hi : InvL wB cb s w1) (hn : NdAt wB n) :
    Calls Try.prog 57 #[ptr n.b, .int .i64 (a : Nat), ptr cb] w1 fun e w' => e = .returned (.tuple #[]) ∧ InvL wB cb (stepL s n a) w' ∧ Below wB.heap.size w1 w' := by
  obtain ⟨kv, hb, _, hl, _⟩ := hn.parts
  have c1 : w1.cell? ⟨n.b, 1, none⟩ = some (leafPtr n.leaf) := by rw [blk_cell (hk.at hb)]; rfl
  have cc : w1.cell? ⟨cb, 0, none⟩ = some (leafPtr s) := by rw [blk_cell hi.1]; rfl
  have fc : w1.frozen? ⟨cb, 0, none⟩ = false := blk_frozen hi.1 0
  have HI := Aside0.mk (And.intro hi (And.intro hl hcb))
  clear hi hb hl hk hn
  cases e : n.leaf with
  | none =>
    rw [e] at c1
    have es : stepL s n a = s := by unfold stepL; rw [e]; rfl
    rw [es]
    have HE := Aside0.mk e
    clear e es
    unfold leafPtr at c1
    unfold ptr
    go_enter Try.func57, Try.ntmps57
    go_wp2_with fail
    refine bodyPost_end (results_none rfl _ _ _) rfl ?_
    exact ⟨rfl, HI.out.1, Below.refl _ _⟩
  | some l =>
    rw [e] at c1
    have es : stepL s n a = some l := by unfold stepL; rw [e]; rfl
    rw [es]
    have HE := Aside0.mk e
    clear e es
    unfold leafPtr ptr at c1
    unfold ptr
    go_enter Try.func57, Try.ntmps57
    go_wp2_with fail
    refine bodyPost_end (results_none rfl _ _ _) rfl ?_
    refine ⟨rfl, ⟨put_one w1 HI.out.1.1, ?_⟩, below_set wB w1 cb HI.out.2.2 _⟩
    have := HI.out.2.1
    rw [HE.out] at this
    exact this
set_option maxHeartbeats 4000000 in
set_option maxRecDepth 100000 in
theorem callF (wB : World) (k : ByteArray) (hks : k.size < 4000000000000) (kb cb : Nat) (hcb : wB.heap.size ≤ cb) (s : Option Lf) (n : Nd) (a : Nat) (w1 : World) (hk : Kept wB w1) (hi : InvF wB k kb cb s w1) (hn : NdAt wB n) (ha : a ≤ k.size) :
    Calls Try.prog 96 #[ptr n.b, .int .i64 (a : Nat), ptr kb, ptr cb] w1 fun e w' => e = .returned (.tuple #[]) ∧ InvF wB k kb cb (stepF k s n a) w' ∧ Below wB.heap.size w1 w' := by
  obtain ⟨kv, hb, _, hl, _⟩ := hn.parts
  have c1 : w1.cell? ⟨n.b, 1, none⟩ = some (leafPtr n.leaf) := by rw [blk_cell (hk.at hb)]; rfl
  have ck : w1.cell? ⟨kb, 0, none⟩ = some (.string k) := by rw [blk_cell hi.1]; rfl
  have cc : w1.cell? ⟨cb, 0, none⟩ = some (leafPtr s) := by rw [blk_cell hi.2.1]; rfl
  have fc : w1.frozen? ⟨cb, 0, none⟩ = false := blk_frozen hi.2.1 0
  have HI := Aside0.mk (And.intro hi (And.intro hl hcb))
  clear hi hb hl hk hn
  by_cases e : a = k.size
  · have es : stepF k s n a = n.leaf := by unfold stepF; rw [if_pos e]
    rw [es]
    subst e
    clear es
    obtain ⟨p, ep⟩ := leafPtr_form n.leaf
    rw [ep] at c1
    have HP := Aside0.mk ep
    clear ep
    unfold ptr
    go_enter Try.func96, Try.ntmps96
    go_wp2_with fail
    refine bodyPost_end (results_none rfl _ _ _) rfl ?_
    have hne : kb ≠ cb := fun e => by have h1 := HI.out.1.1; rw [e, HI.out.1.2.1] at h1; simp at h1
    refine ⟨rfl, ⟨set_at HI.out.1.1 hne, ?_, HI.out.2.1⟩, below_set wB w1 cb HI.out.2.2 _⟩
    rw [HP.out]
    exact put_one w1 HI.out.1.2.1
  · have es : stepF k s n a = s := by unfold stepF; rw [if_neg e]
    rw [es]
    have eI : ¬ ((a : Int) = (k.size : Int)) := by omega
    clear es e
    unfold ptr
    go_enter Try.func96, Try.ntmps96
    go_wp2_with fail
    refine bodyPost_end (results_none rfl _ _ _) rfl ?_
    exact ⟨rfl, HI.out.1, Below.refl _ _⟩
set_option maxHeartbeats 4000000 in
set_option maxRecDepth 100000 in
theorem callR (wB : World) (k : ByteArray) (cb : Nat) (hcb : wB.heap.size ≤ cb) (s : Nat) (n : Nd) (a : Nat) (w1 : World) (hi : InvR k cb s w1) (ha : a ≤ k.size) :
    Calls Try.prog 64 #[ptr n.b, .int .i64 (a : Nat), ptr cb] w1 fun e w' => e = .returned (.tuple #[]) ∧ InvR k cb (stepR s n a) w' ∧ Below wB.heap.size w1 w' := by
  have cc : w1.cell? ⟨cb, 0, none⟩ = some (.int .i64 (s : Int)) := by rw [blk_cell hi.1]; rfl
  have fc : w1.frozen? ⟨cb, 0, none⟩ = false := blk_frozen hi.1 0
  have HI := Aside0.mk (And.intro hi hcb)
  clear hi
  unfold ptr
  go_enter Try.func64, Try.ntmps64
  go_wp2_with fail
  refine bodyPost_end (results_none rfl _ _ _) rfl ?_
  exact ⟨rfl, ⟨put_one w1 HI.out.1.1, ha⟩, below_set wB w1 cb HI.out.2 _⟩
def longN (root : Nd) (k : ByteArray) : Option Lf := wayF stepL k (k.size + 2) (some root) 0 none
def reachN (root : Nd) (k : ByteArray) : Nat := wayF stepR k (k.size + 2) (some root) 0 0
def seekN (root : Nd) (k : ByteArray) : Option Lf := wayF (stepF k) k (k.size + 2) (some root) 0 none
set_option maxHeartbeats 4000000 in
set_option maxRecDepth 100000 in
theorem treeLongest (w : World) (tb : Nat) (root : Nd) (size : Int) (k : ByteArray) (ht : TrAt w tb root size) (ho : Ok root) (hsm : Sm root) (hroot : root.label.size = 0) (hk : k.size < 4000000000000) :
    Calls Try.prog 17 #[ptr tb, .string k] w fun e w' => e = .returned (toldV (longN root k)) ∧ Below w.heap.size w w' := by
  have hk0 : Kept w (w.alloc (.cells #[.pointer none] 121)) := Kept.of ((Below.refl _ w).alloc (Nat.le_refl _) _)
  have q1 := Aside0.mk (way57 stepL (InvL w w.heap.size) w.heap.size w (w.alloc (.cells #[.pointer none] 121)) tb root size k none hk hk0 (by simp only [World.size_alloc]; omega) ht ho hsm hroot ⟨heap_alloc_new w _, fun l e => by cases e⟩
    (fun s n a w1 h1 h2 h3 h4 h5 => callL w w.heap.size (Nat.le_refl _) s n a w1 h1 h3 h4))
  clear ht ho hsm hroot hk0
  obtain ⟨p, ep⟩ := leafPtr_form (longN root k)
  obtain ⟨tv, etv⟩ : ∃ tv, toldV (longN root k) = tv := ⟨_, rfl⟩
  have hform : ∃ a b c, tv = .tuple #[a, b, c] := by rw [← etv]; cases longN root k <;> exact ⟨_, _, _, rfl⟩
  rw [etv]
  obtain ⟨a, b, c, rfl⟩ := hform
  have HE := Aside0.mk (And.intro etv ep)
  clear etv ep
  unfold ptr at q1 ⊢
  go_enter Try.func17, Try.ntmps17
  go_wp2_with (go_at_call 56; refine q1.out.mono ?_)
  rintro e w2 ⟨rfl, hi, hb⟩
  have hL : longN root k = wayF stepL k (k.size + 2) (some root) 0 none := rfl
  rw [← hL] at hi
  have ep := HE.out.2
  have cc : w2.cell? ⟨w.heap.size, 0, none⟩ = some (.pointer p) := by rw [blk_cell hi.1, ep]; rfl
  have hb' : Below w.heap.size w w2 := ((Below.refl _ w).alloc (Nat.le_refl _) _).trans hb
  have q2 := told w2 (longN root k) (hi.2.keep (Kept.of hb'))
  rw [ep] at q2
  rw [HE.out.1] at q2
  have q3 := Aside0.mk q2
  have HB := Aside0.mk hb'
  clear hi hb hb' q2 q1 hL ep
  go_wp2_with (go_at_call 58; refine q3.out.mono ?_)
  rintro e w3 ⟨rfl, hQ⟩
  have HQ := Aside0.mk hQ
  clear hQ q3
  go_wp2_with fail
  go_ret3
  exact ⟨rfl, HB.out.trans (HQ.out.below _)⟩
set_option maxHeartbeats 4000000 in
set_option maxRecDepth 100000 in
theorem treeReach (w : World) (tb : Nat) (root : Nd) (size : Int) (k : ByteArray) (ht : TrAt w tb root size) (ho : Ok root) (hsm : Sm root) (hroot : root.label.size = 0) (hk : k.size < 4000000000000) :
    Calls Try.prog 21 #[ptr tb, .string k] w fun e w' => e = .returned (.string (k.extract 0 (reachN root k))) ∧ reachN root k ≤ k.size ∧ Below w.heap.size w w' := by
  have hk0 : Kept w (w.alloc (.cells #[.int .i64 0] 3)) := Kept.of ((Below.refl _ w).alloc (Nat.le_refl _) _)
  have q1 := Aside0.mk (way64 stepR (InvR k w.heap.size) w.heap.size w (w.alloc (.cells #[.int .i64 0] 3)) tb root size k 0 hk hk0 (by simp only [World.size_alloc]; omega) ht ho hsm hroot ⟨heap_alloc_new w _, Nat.zero_le _⟩
    (fun s n a w1 h1 h2 h3 h4 h5 => callR w k w.heap.size (Nat.le_refl _) s n a w1 h3 h5))
  clear ht ho hsm hroot hk0
  obtain ⟨r, er⟩ : ∃ r, reachN root k = r := ⟨_, rfl⟩
  rw [er]
  have HE := Aside0.mk er
  clear er
  unfold ptr at q1 ⊢
  go_enter Try.func21, Try.ntmps21
  go_wp2_with (go_at_call 56; refine q1.out.mono ?_)
  rintro e w2 ⟨rfl, hi, hb⟩
  have hL : reachN root k = wayF stepR k (k.size + 2) (some root) 0 0 := rfl
  rw [← hL, HE.out] at hi
  have cc : w2.cell? ⟨w.heap.size, 0, none⟩ = some (.int .i64 (r : Int)) := by rw [blk_cell hi.1]; rfl
  have hb' : Below w.heap.size w w2 := ((Below.refl _ w).alloc (Nat.le_refl _) _).trans hb
  have hr := hi.2
  have hrI : (r : Int) ≤ (k.size : Int) := by omega
  have HB := Aside0.mk hb'
  clear hi hb hb' q1 hL
  go_wp2_with fail
  go_ret
  exact ⟨rfl, hr, HB.out⟩
set_option maxHeartbeats 4000000 in
set_option maxRecDepth 100000 in
theorem treeFind (w : World) (tb : Nat) (root : Nd) (size : Int) (k : ByteArray) (ht : TrAt w tb root size) (ho : Ok root) (hsm : Sm root) (hroot : root.label.size = 0) (hk : k.size < 4000000000000) :
    Calls Try.prog 66 #[ptr tb, .string k] w fun e w' => e = .returned (leafPtr (seekN root k)) ∧ LfAt w (seekN root k) ∧ Below w.heap.size w w' := by
  have hk0 : Kept w ((w.alloc (.cells #[.string k] 9)).alloc (.cells #[.pointer none] 121)) := Kept.of (((Below.refl _ w).alloc (Nat.le_refl _) _).alloc (by simp only [World.size_alloc]; omega) _)
  have e2 : ((w.alloc (.cells #[.string k] 9)).alloc (.cells #[.pointer none] 121)).heap[w.heap.size + 1]? = some (.cells #[leafPtr none] 121 (0, 0)) := by
    have := heap_alloc_new (w.alloc (.cells #[.string k] 9)) (.cells #[.pointer none] 121)
    rw [World.size_alloc] at this
    exact this
  have q1 := Aside0.mk (way96 (stepF k) (InvF w k w.heap.size (w.heap.size + 1)) w.heap.size (w.heap.size + 1) w ((w.alloc (.cells #[.string k] 9)).alloc (.cells #[.pointer none] 121)) tb root size k none hk hk0 (by simp only [World.size_alloc]; omega) ht ho hsm hroot ⟨alloc_at (heap_alloc_new w _), e2, fun l e => by cases e⟩
    (fun s n a w1 h1 h2 h3 h4 h5 => callF w k hk w.heap.size (w.heap.size + 1) (by omega) s n a w1 h1 h3 h4 h5))
  clear ht ho hsm hroot hk0 e2
  unfold ptr at q1 ⊢
  go_enter Try.func66, Try.ntmps66
  go_wp2_with (go_at_call 56; refine q1.out.mono ?_)
  rintro e w2 ⟨rfl, hi, hb⟩
  have hL : seekN root k = wayF (stepF k) k (k.size + 2) (some root) 0 none := rfl
  rw [← hL] at hi
  have cc : w2.cell? ⟨w.heap.size + 1, 0, none⟩ = some (leafPtr (seekN root k)) := by rw [blk_cell hi.2.1]; rfl
  have hb' : Below w.heap.size w w2 := (((Below.refl _ w).alloc (Nat.le_refl _) _).alloc (by simp only [World.size_alloc]; omega) _).trans hb
  have HB := Aside0.mk (And.intro hb' hi.2.2)
  clear hi hb hb' q1 hL
  go_wp2_with fail
  go_ret
  exact ⟨rfl, HB.out.2, HB.out.1⟩
def getV (o : Option Lf) : Value := match o with | none => .tuple #[.int .i64 0, .bool false] | some l => .tuple #[l.val, .bool true]
set_option maxHeartbeats 4000000 in
set_option maxRecDepth 100000 in
theorem treeGet (w : World) (tb : Nat) (root : Nd) (size : Int) (k : ByteArray) (ht : TrAt w tb root size) (ho : Ok root) (hsm : Sm root) (hroot : root.label.size = 0) (hk : k.size < 4000000000000) :
    Calls Try.prog 25 #[ptr tb, .string k] w fun e w' => e = .returned (getV (seekN root k)) ∧ Below w.heap.size w w' := by
  have q1 := Aside0.mk (treeFind w tb root size k ht ho hsm hroot hk)
  clear ht ho hsm hroot
  obtain ⟨tv, etv⟩ : ∃ tv, toldV (seekN root k) = tv := ⟨_, rfl⟩
  have hform : ∃ a b c, tv = .tuple #[a, b, c] ∧ getV (seekN root k) = .tuple #[b, c] := by rw [← etv]; cases seekN root k <;> exact ⟨_, _, _, rfl, rfl⟩
  obtain ⟨a, b, c, rfl, eg⟩ := hform
  rw [eg]
  obtain ⟨p, ep⟩ := leafPtr_form (seekN root k)
  have HE := Aside0.mk (And.intro etv (And.intro eg ep))
  rw [ep] at q1
  clear etv eg ep
  unfold ptr at q1 ⊢
  go_enter Try.func25, Try.ntmps25
  go_wp2_with (go_at_call 66; refine q1.out.mono ?_)
  rintro e w2 ⟨rfl, hl, hb⟩
  have q2 := told w2 (seekN root k) (hl.keep (Kept.of hb))
  rw [HE.out.1, HE.out.2.2] at q2
  have q3 := Aside0.mk q2
  have HB := Aside0.mk hb
  clear hl hb q2 q1
  go_wp2_with (go_at_call 58; refine q3.out.mono ?_)
  rintro e w3 ⟨rfl, hQ⟩
  have HQ := Aside0.mk hQ
  clear hQ q3
  go_wp2_with fail
  go_ret2
  exact ⟨rfl, HB.out.trans (HQ.out.below _)⟩
end Go.Proofs.Ytkaeglnnahecjaa.T
