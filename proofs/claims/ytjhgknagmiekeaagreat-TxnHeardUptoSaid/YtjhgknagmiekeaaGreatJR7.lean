/- joined: G15 H1 H9 H10 H11 H2 H3 H12 -/
import Derived.Test.YtjhgknagmiekeaaGreatJR6
import Derived.Test.YtjhgknagmiekeaaGreatJR5
import Derived.Sort.KeysCollected
import Derived.MapViews
set_option linter.unusedVariables false
set_option linter.unusedSimpArgs false
namespace Go.Proofs.YtjhgknagmiekeaaGreat.G
open Go.RowKit Go.Lib Go.Proofs Go.Conc Go.Maps
open Go.Proofs.YtjhgknagmiekeaaGreatW.PrintWords hiding Kept
open Go.Proofs.YtjhgknagmiekeaaGreatW.PrintLast
open Go.Proofs.YtjhgknagmiekeaaGreat.T (Nd NdAt ptr Tr L All valT wasV Lf Strs)
theorem FarP.mono {p q : TypeId → Bool} {w w' : World} (h : FarP p w w') (hq : ∀ t, q t = false → p t = false) : FarP q w w' := fun b cs t fr hb ht => h b cs t fr hb (hq t ht)
def tXB (t : TypeId) : Bool := t == 117 || t == 99
def tAll (t : TypeId) : Bool := t == 117 || t == 99 || t == 153
def FarD (w w' : World) : Prop := ∀ (k : Nat) (d : Option (List Deferred)), w.heap[k]? = some (.deferred d) → w'.heap[k]? = some (.deferred d)
theorem FarD.trans {a b c : World} (h : FarD a b) (k : FarD b c) : FarD a c := fun i d hi => k i d (h i d hi)
theorem FarD.of {w w' : World} (h : Below w.heap.size w w') : FarD w w' := fun i d hi => (h.block i (Array.getElem?_eq_some_iff.1 hi).1).trans hi
theorem Only.farD {p : Nat → Prop} {q : TypeId → Bool} {w w' : World} (h : Only p w w') (hp : CellsOf w q p) : FarD w w' := fun i d hi => h.at hi (fun e => by
  obtain ⟨cs, t, fr, h1, -⟩ := hp i e
  rw [hi] at h1
  cases h1)
theorem Shot.farD {w w' : World} {S : Nat → Bool} (h : Shot w w' S) : FarD w w' := fun i d hi => by
  refine (h.far i (Array.getElem?_eq_some_iff.1 hi).1 (fun c d' hw _ => ⟨fun e => ?_, fun e => ?_⟩)).trans hi
  · have h1 := hw.obj
    rw [← e, hi] at h1
    cases h1
  · have h1 := hw.ch
    rw [← e, hi] at h1
    cases h1
structure Done (w w' : World) (b x tb tx : Nat) (n : Int) (root : Nd) (D : DataW Unit) (cnt : Int) : Prop where
  base : ∃ v', BaseAt w' b v' tx (n + 1) false
  far : FarP tAll w w'
  watch : ∀ c d, WatchAt w (c + 1) c d → ∃ d', WatchAt w' (c + 1) c d'
  count : ∃ (W : World) (ks : List ByteArray), (∀ c d, WatchAt w (c + 1) c d → WatchAt W (c + 1) c d) ∧ (ks.map L).Perm (strKeys D) ∧ cnt = (fireAll W root ks).2
  below : ∀ B, B ≤ w.heap.size → B ≤ x → B ≤ b → (∀ m ∈ mks root, B ≤ chOf m) → Below B w w'
  size : w.heap.size ≤ w'.heap.size
  defr : FarD w w'
  shot : ∃ (W : World) (ks : List ByteArray), (∀ c d, WatchAt w (c + 1) c d → WatchAt W (c + 1) c d) ∧ (ks.map L).Perm (strKeys D) ∧ ∀ c d, WatchAt w (c + 1) c d → WatchAt w' (c + 1) c (d || (fireAll W root ks).1 c)
def cm9_T : Bool × List (List Nat × List Nat) := (true, [([], []), ([0], [0]), ([1], [1]), ([2], [2]), ([3], [3]), ([4], [4]), ([], []), ([6], [6]), ([7], [7]), ([8], [8]), ([], []), ([10], [10]), ([11], [11]), ([12], [12]), ([13], [13]), ([9, 14], [9, 14]), ([15], [15]), ([5, 16], [5, 16])])
def cm9_B : List Nat := [0, 1, 3, 7, 15, 31, 0, 64, 192, 448, 0, 1024, 3072, 7168, 15360, 32704, 65472, 131071]
theorem cm9_bits : waitsOk cm9_T.2 cm9_B = true := by kernel_rfl
theorem cm9_tab : rtab .any (opsOf Tryz.f30 9) = cm9_T := by kernel_rfl
attribute [local go_sem] Oper.semAt_some
set_option maxRecDepth 100000 in
set_option maxHeartbeats 4000000 in
theorem txnCommit (w : World) (x b v tb tx mb nn : Nat) (n : Int) (D : DataW Unit) (root : Nd) (hb : BaseAt w b v tb n true) (hx : TxnAt w x b tx mb false) (hm : Tch w mb nn D) (hnn : nn < 1000000000000) (ht : Tr w tb root) (hM : Mks w root) (hD : ∀ s ∈ strKeys D, s.length < 4000000000000) (hne : strKeys D ≠ []) (hn0 : 0 ≤ n) (hn1 : n < 1000000000000) :
    Calls Tryz.prog 30 #[ptr x] w fun e w' => ∃ cnt : Int, e = .returned (.tuple #[.int .i64 cnt, .int .i64 0]) ∧ Done w w' b x tb tx n root D cnt := by
  have hlen : (strKeys D).length < 1000000000000 := by
    obtain ⟨es, cl, -, -, -, e⟩ := id hm
    have h9 := hm.size_le
    rw [e] at h9 ⊢
    unfold strKeys
    rw [List.length_map]
    exact Nat.lt_of_le_of_lt h9 hnn
  have q1 := Aside0.mk (txnTouched w x b tx mb nn D hx hm hnn)
  have x3 : w.cell? ⟨x, 3, none⟩ = some (.bool false) := by rw [blk_cell hx]; rfl
  have HH := Aside0.mk (And.intro hb (And.intro hx (And.intro ht (And.intro hM (And.intro hD (And.intro hne hlen))))))
  have hnot : ∀ (x : Bool) (w : World), (Op.unary .not (.bool x)).run Tryz.prog w = .ok (.bool (!x)) w := fun _ _ => rfl
  clear hb hx hm hnn ht hM hD hne hlen
  unfold ptr at q1 ⊢
  go_enter_defers Tryz.func30, Tryz.ntmps30
  go_wp2_with fail
  go_at_call 50
  refine q1.out.mono ?_
  rintro e w1 ⟨vv, ks, rfl, hrow, hperm, hb1⟩
  have hx1 := (hb1.block _ (Array.getElem?_eq_some_iff.1 HH.out.2.1).1).trans HH.out.2.1
  have y0 : w1.cell? ⟨x, 0, none⟩ = some (.pointer (some ⟨b, 0, none⟩)) := by rw [blk_cell hx1]; rfl
  have y3 : w1.cell? ⟨x, 3, none⟩ = some (.bool false) := by rw [blk_cell hx1]; rfl
  have g3 : w1.frozen? ⟨x, 3, none⟩ = false := blk_frozen hx1 3
  have H1 := Aside0.mk (And.intro hrow (And.intro hperm (And.intro hb1 hx1)))
  obtain ⟨A, c, rfl, hstr, hty⟩ := hrow.slice
  have hkl : ks.length = (strKeys D).length := by rw [← hperm.length_eq, List.length_map]
  obtain ⟨N, eN⟩ : ∃ N, ks.length = N + 1 := ⟨ks.length - 1, by have := List.length_pos_iff.2 HH.out.2.2.2.2.2.1; omega⟩
  have HN := Aside0.mk eN
  have hNl : N < 1000000000000 := by have := HH.out.2.2.2.2.2.2; omega
  rw [eN]
  clear hrow hperm hb1 hx1 hstr hty q1 x3 hkl eN
  go_upto_region 5 with fail
  obtain ⟨W2, eW2⟩ : ∃ W2, w1.setCell ⟨x, 3, none⟩ (.bool true) = W2 := ⟨_, rfl⟩
  have ho2 : Only (fun k => k = x) w W2 := by rw [← eW2]; exact (Only.of (p := fun k => k = x) H1.out.2.2.1).put x 3 (.inl rfl) _
  have hx2 : TxnAt W2 x b tx mb true := by rw [← eW2]; exact set_atG H1.out.2.2.2 3 _
  have hcx : CellsOf w (fun t => t == 117) (fun k => k = x) := fun k e => by rw [e]; exact ⟨_, _, _, HH.out.2.1, rfl⟩
  have hb2 : BaseAt W2 b v tb n true := ⟨ho2.farP hcx _ _ _ _ HH.out.1.base rfl, ho2.farP hcx _ _ _ _ HH.out.1.ver rfl⟩
  have hrow2 : TxtRow W2 (.slice A ks.length c) ks := by
    have h1 : TxtRow w1 (.slice A ks.length c) ks := H1.out.1
    have h2 : FarP (fun t => t == 117) w1 W2 := by
      rw [← eW2]
      have h3 : Only (fun k => k = x) w1 (w1.setCell ⟨x, 3, none⟩ (.bool true)) := (Only.refl (fun k => k = x) w1).put x 3 (.inl rfl) _
      exact h3.farP (fun k e => by rw [e]; exact ⟨_, _, _, H1.out.2.2.2, rfl⟩)
    exact h1.far rfl h2
  have x0 : W2.cell? ⟨x, 0, none⟩ = some (.pointer (some ⟨b, 0, none⟩)) := by rw [blk_cell hx2]; rfl
  have x1 : W2.cell? ⟨x, 1, none⟩ = some (.pointer (some ⟨tx, 0, none⟩)) := by rw [blk_cell hx2]; rfl
  have v1 : W2.cell? ⟨v, 1, none⟩ = some (.int .u64 n) := by rw [blk_cell hb2.ver]; rfl
  have q2 := Aside0.mk (loadPtr b v _ _ W2 (by rw [blk_cell hb2.base]; rfl) hb2.ver)
  have H2 := Aside0.mk (And.intro ho2 (And.intro hx2 (And.intro hb2 (And.intro hrow2 hcx))))
  rw [eW2]
  clear y0 y3 g3 ho2 hx2 hcx hb2 hrow2 eW2
  have hNe : ¬ ((N + 1 : Nat) : Int) = 0 := by omega
  have hwr : IntKind.u64.wrap (n + 1) = n + 1 := by rw [IntKind.wrap_u64]; omega
  unfold ptr at q2
  go_wp2_with (first | (go_at_call 36; refine q2.out.mono ?_; rintro e w' ⟨rfl, hw⟩; subst hw))
  refine Code.wp_mono NoPanic.imp ?_
  refine start_ (n := 18) (S := (fun Z => Z.cell? ⟨x, 0, none⟩ = some (.pointer (some ⟨b, 0, none⟩)) ∧ Z.cell? ⟨x, 1, none⟩ = some (.pointer (some ⟨tx, 0, none⟩)) ∧ Z.cell? ⟨v, 1, none⟩ = some (.int .u64 n))) (ds := [17]) #[false, false, false, false, false, false, false, false, false, false, false, false, false, false, false, false, false, false] (by kernel_rfl) rfl rfl ⟨x0, x1, v1⟩ (fun hHeld => ?_); refine with_tabW cm9_tab cm9_bits (fun HT_ HW_ => ?_)
  refine pure_ (i := 0) (N := some 31) (v := ?_) (a' := ?_) #[true, false, false, false, false, false, false, false, false, false, false, false, false, false, false, false, false, false] rfl rfl (any_of HT_.out (by kernel_rfl)) (fun _ _ _ h => h) (Or.inl ⟨by rfl, ?_⟩) ?_ ?_
  rotate_left
  · intro w'
    go_simp
    with_reducible rfl
  rotate_left
  · simp only [Act.put, List.setIfInBounds_toArray, List.set_cons_zero, List.set_cons_succ, i64_w, i32_w]
    rfl
  refine pure_ (i := 1) (N := some 32) (v := ?_) (a' := ?_) #[true, true, false, false, false, false, false, false, false, false, false, false, false, false, false, false, false, false] rfl rfl (any_of HT_.out (by kernel_rfl)) (fun _ _ _ h => h) (Or.inl ⟨by rfl, ?_⟩) ?_ ?_
  rotate_left
  · intro w'
    go_simp
    with_reducible rfl
  rotate_left
  · simp only [Act.put, List.setIfInBounds_toArray, List.set_cons_zero, List.set_cons_succ, i64_w, i32_w]
    rfl
  refine pure_ (i := 2) (N := some 33) (v := ?_) (a' := ?_) #[true, true, true, false, false, false, false, false, false, false, false, false, false, false, false, false, false, false] rfl rfl (any_of HT_.out (by kernel_rfl)) (fun _ _ _ h => h) (Or.inl ⟨by rfl, ?_⟩) ?_ ?_
  rotate_left
  · intro w'
    go_simp
    with_reducible rfl
  rotate_left
  · simp only [Act.put, List.setIfInBounds_toArray, List.set_cons_zero, List.set_cons_succ, i64_w, i32_w]
    rfl
  refine pure_ (i := 6) (N := some 37) (v := ?_) (a' := ?_) #[true, true, true, false, false, false, true, false, false, false, false, false, false, false, false, false, false, false] rfl rfl (any_of HT_.out (by kernel_rfl)) (fun _ _ _ h => h) (Or.inl ⟨by rfl, ?_⟩) ?_ ?_
  rotate_left
  · intro w'
    go_simp
    with_reducible rfl
  rotate_left
  · simp only [Act.put, List.setIfInBounds_toArray, List.set_cons_zero, List.set_cons_succ, i64_w, i32_w]
    rfl
  refine pure_ (i := 7) (N := some 38) (v := ?_) (a' := ?_) #[true, true, true, false, false, false, true, true, false, false, false, false, false, false, false, false, false, false] rfl rfl (any_of HT_.out (by kernel_rfl)) (fun _ _ _ h => h) (Or.inl ⟨by rfl, ?_⟩) ?_ ?_
  rotate_left
  · intro w'
    go_simp
    with_reducible rfl
  rotate_left
  · simp only [Act.put, List.setIfInBounds_toArray, List.set_cons_zero, List.set_cons_succ, i64_w, i32_w]
    rfl
  refine pure_ (i := 8) (N := some 39) (v := ?_) (a' := ?_) #[true, true, true, false, false, false, true, true, true, false, false, false, false, false, false, false, false, false] rfl rfl (any_of HT_.out (by kernel_rfl)) (fun _ _ _ h => h) (Or.inl ⟨by rfl, ?_⟩) ?_ ?_
  rotate_left
  · intro w'
    go_simp
    with_reducible rfl
  rotate_left
  · simp only [Act.put, List.setIfInBounds_toArray, List.set_cons_zero, List.set_cons_succ, i64_w, i32_w]
    rfl
  refine pure_ (i := 10) (N := some 41) (v := ?_) (a' := ?_) #[true, true, true, false, false, false, true, true, true, false, true, false, false, false, false, false, false, false] rfl rfl (any_of HT_.out (by kernel_rfl)) (fun _ _ _ h => h) (Or.inl ⟨by rfl, ?_⟩) ?_ ?_
  rotate_left
  · intro w'
    go_simp
    with_reducible rfl
  rotate_left
  · simp only [Act.put, List.setIfInBounds_toArray, List.set_cons_zero, List.set_cons_succ, i64_w, i32_w]
    rfl
  refine pure_ (i := 11) (N := some 42) (v := ?_) (a' := ?_) #[true, true, true, false, false, false, true, true, true, false, true, true, false, false, false, false, false, false] rfl rfl (any_of HT_.out (by kernel_rfl)) (fun _ _ _ h => h) (Or.inl ⟨by rfl, ?_⟩) ?_ ?_
  rotate_left
  · intro w'
    go_simp
    with_reducible rfl
  rotate_left
  · simp only [Act.put, List.setIfInBounds_toArray, List.set_cons_zero, List.set_cons_succ, i64_w, i32_w]
    rfl
  refine pure_ (i := 12) (N := some 43) (v := ?_) (a' := ?_) #[true, true, true, false, false, false, true, true, true, false, true, true, true, false, false, false, false, false] rfl rfl (any_of HT_.out (by kernel_rfl)) (fun _ _ _ h => h) (Or.inl ⟨by rfl, ?_⟩) ?_ ?_
  rotate_left
  · intro w'
    go_simp
    with_reducible rfl
  rotate_left
  · simp only [Act.put, List.setIfInBounds_toArray, List.set_cons_zero, List.set_cons_succ, i64_w, i32_w]
    rfl
  refine take_ (i := 3) (N := some 34) (v := ?_) (a' := ?_) #[true, true, true, true, false, false, true, true, true, false, true, true, true, false, false, false, false, false] rfl rfl (take_ofW HT_.out HW_.out (by kernel_rfl)) (fun _ _ _ h => h) (Or.inl ⟨by rfl, ?_⟩) hHeld ?_ ?_
  rotate_left
  · rintro w' ⟨s0, s1, s2⟩
    go_simp
    with_reducible rfl
  rotate_left
  · simp only [Act.put, List.setIfInBounds_toArray, List.set_cons_zero, List.set_cons_succ, i64_w, i32_w]
    rfl
  refine take_ (i := 9) (N := some 40) (v := ?_) (a' := ?_) #[true, true, true, true, false, false, true, true, true, true, true, true, true, false, false, false, false, false] rfl rfl (take_ofW HT_.out HW_.out (by kernel_rfl)) (fun _ _ _ h => h) (Or.inl ⟨by rfl, ?_⟩) hHeld ?_ ?_
  rotate_left
  · rintro w' ⟨s0, s1, s2⟩
    go_simp
    with_reducible rfl
  rotate_left
  · simp only [Act.put, List.setIfInBounds_toArray, List.set_cons_zero, List.set_cons_succ, i64_w, i32_w]
    rfl
  refine take_ (i := 13) (N := some 44) (v := ?_) (a' := ?_) #[true, true, true, true, false, false, true, true, true, true, true, true, true, true, false, false, false, false] rfl rfl (take_ofW HT_.out HW_.out (by kernel_rfl)) (fun _ _ _ h => h) (Or.inl ⟨by rfl, ?_⟩) hHeld ?_ ?_
  rotate_left
  · rintro w' ⟨s0, s1, s2⟩
    go_simp
    with_reducible rfl
  rotate_left
  · simp only [Act.put, List.setIfInBounds_toArray, List.set_cons_zero, List.set_cons_succ, i64_w, i32_w]
    rfl
  refine pure_ (i := 4) (N := some 35) (v := ?_) (a' := ?_) #[true, true, true, true, true, false, true, true, true, true, true, true, true, true, false, false, false, false] rfl rfl (any_of HT_.out (by kernel_rfl)) (fun _ _ _ h => h) (Or.inl ⟨by rfl, ?_⟩) ?_ ?_
  rotate_left
  · intro w'
    go_simp
    with_reducible rfl
  rotate_left
  · simp only [Act.put, List.setIfInBounds_toArray, List.set_cons_zero, List.set_cons_succ, i64_w, i32_w]
    rfl
  refine pure_ (i := 5) (N := some 36) (v := ?_) (a' := ?_) #[true, true, true, true, true, true, true, true, true, true, true, true, true, true, false, false, false, false] rfl rfl (any_of HT_.out (by kernel_rfl)) (fun _ _ _ h => h) (Or.inl ⟨by rfl, ?_⟩) ?_ ?_
  rotate_left
  · intro w'
    go_simp
    with_reducible rfl
  rotate_left
  · simp only [Act.put, List.setIfInBounds_toArray, List.set_cons_zero, List.set_cons_succ, i64_w, i32_w]
    rfl
  refine pure_ (i := 14) (N := some 45) (v := ?_) (a' := ?_) #[true, true, true, true, true, true, true, true, true, true, true, true, true, true, true, false, false, false] rfl rfl (any_of HT_.out (by kernel_rfl)) (fun _ _ _ h => h) (Or.inl ⟨by rfl, ?_⟩) ?_ ?_
  rotate_left
  · intro w'
    go_simp
    with_reducible rfl
  rotate_left
  · simp only [Act.put, List.setIfInBounds_toArray, List.set_cons_zero, List.set_cons_succ, i64_w, i32_w]
    rfl
  refine pure_ (i := 15) (N := some 46) (v := ?_) (a' := ?_) #[true, true, true, true, true, true, true, true, true, true, true, true, true, true, true, true, false, false] rfl rfl (any_of HT_.out (by kernel_rfl)) (fun _ _ _ h => h) (Or.inl ⟨by rfl, ?_⟩) ?_ ?_
  rotate_left
  · intro w'
    go_simp
    with_reducible rfl
  rotate_left
  · simp only [Act.put, List.setIfInBounds_toArray, List.set_cons_zero, List.set_cons_succ, i64_w, i32_w]
    rfl
  refine one_ (i := 16) (N := some 47) #[true, true, true, true, true, true, true, true, true, true, true, true, true, true, true, true, true, false] rfl rfl (one_of HT_.out (by kernel_rfl)) (by decide) (fun K hK => ?_)
  refine value_ (w1 := w'.drew.alloc (.cells #[.pointer (some ⟨tx, 0, none⟩), .int .u64 (n + 1)] 102)) (v := .pointer (some ⟨w'.heap.size, 0, none⟩)) (by rfl) rfl (by go_simp) ?_
  have hb3 : Below w'.heap.size w' (w'.drew.alloc (.cells #[.pointer (some ⟨tx, 0, none⟩), .int .u64 (n + 1)] 102)) := (below_drew (Below.refl _ w')).alloc (Nat.le_refl _) _
  have h3 : (fun Z => Z.cell? ⟨x, 0, none⟩ = some (.pointer (some ⟨b, 0, none⟩)) ∧ Z.cell? ⟨x, 1, none⟩ = some (.pointer (some ⟨tx, 0, none⟩)) ∧ Z.cell? ⟨v, 1, none⟩ = some (.int .u64 n)) (w'.drew.alloc (.cells #[.pointer (some ⟨tx, 0, none⟩), .int .u64 (n + 1)] 102)) := ⟨(T.Kept.of hb3).cell x0, (T.Kept.of hb3).cell x1, (T.Kept.of hb3).cell v1⟩
  clear hHeld
  refine hK.out _ _ h3 (fun hHeld => ?_)
  clear hK K
  refine norm_ (a' := ?_) ?_ ?_
  rotate_left
  · show Act.put _ (some 47) _ = _
    simp only [Act.put, List.setIfInBounds_toArray, List.set_cons_zero, List.set_cons_succ, i64_w, i32_w]
    rfl
  obtain ⟨V, eV⟩ : ∃ V, w'.heap.size = V := ⟨_, rfl⟩
  obtain ⟨W3, eW3⟩ : ∃ W3, w'.drew.alloc (.cells #[.pointer (some ⟨tx, 0, none⟩), .int .u64 (n + 1)] 102) = W3 := ⟨_, rfl⟩
  have hv3 : W3.heap[V]? = some (.cells #[.pointer (some ⟨tx, 0, none⟩), .int .u64 (n + 1)] 102 (0, 0)) := by rw [← eW3, ← eV]; exact heap_alloc_new w'.drew _
  rw [eW3] at hb3
  have hB3 := H2.out.2.2.1.move (hb3.block _ (Array.getElem?_eq_some_iff.1 H2.out.2.2.1.base).1) (hb3.block _ (Array.getElem?_eq_some_iff.1 H2.out.2.2.1.ver).1)
  have q3 := Aside0.mk (storePtr b V _ _ _ W3 (by rw [blk_cell hB3.base]; rfl) (blk_frozen hB3.base 0) hv3)
  have H3 := Aside0.mk (And.intro hb3 (And.intro hv3 (And.intro hB3 eV)))
  rw [eW3, eV]
  clear hb3 h3 hv3 hB3 eW3 eV
  unfold ptr at q3
  refine last_ (i := 17) (N := some 48) #[true, true, true, true, true, true, true, true, true, true, true, true, true, true, true, true, true, true] rfl rfl (one_of HT_.out (by kernel_rfl)) (by decide) (fun K hK => ?_)
  refine goes_ Tryz.func34 (by kernel_rfl) rfl #[.pointer (some ⟨b, 0, none⟩), .pointer (some ⟨V, 0, none⟩)] (by rfl) rfl rfl (by (try simp only [List.map_toArray, List.map_cons, List.map_nil]); first | done | rfl) ?_
  refine q3.out.mono ?_
  rintro e w4 ⟨rfl, hw4⟩
  have HW4 := Aside0.mk hw4
  clear hw4 hHeld
  refine ⟨_, rfl, ?_⟩
  refine hK.out _ _ ?_
  clear hK K
  refine done_ (done_of HT_.out (by kernel_rfl)) ?_
  refine NoPanic.normal ?_
  clear q2 q3 HT_ HW_ x0 x1 v1
  have hw4 := HW4.out
  have ho4 : Only (fun k => k = x ∨ k = b) w w4 := by
    rw [hw4]
    exact (H2.out.1.trans (Only.of (p := fun k => k = b) H3.out.1)).put b 0 (.inl (.inr rfl)) _
  have hcb : CellsOf w tXB (fun k => k = x ∨ k = b) := fun k e => by
    rcases e with e | e
    · rw [e]; exact ⟨_, _, _, HH.out.2.1, rfl⟩
    · rw [e]; exact ⟨_, _, _, HH.out.1.base, rfl⟩
  have hfp := ho4.farP hcb
  have ht4 : Tr w4 tb root := hfp.tr rfl rfl rfl rfl HH.out.2.2.1
  have hM4 : Mks w4 root := fun m hm => (HH.out.2.2.2.1 m hm).imp (fun c d hw => ⟨d, ho4.watch hcb rfl hw⟩)
  have hfp3 : FarP (fun t => t == 99) W3 w4 := by
    rw [hw4]
    exact ((Only.refl (fun k => k = b) W3).put b 0 (.inl rfl) _).farP (fun k e => by rw [e]; exact ⟨_, _, _, H3.out.2.2.1.base, rfl⟩)
  have hrow4 : TxtRow w4 (.slice A ks.length c) ks := (H2.out.2.2.2.1.far (p := fun t => t == 99) rfl (FarP.of H3.out.1)).far rfl hfp3
  obtain ⟨A', c', eA, hstr, hty⟩ := hrow4.slice
  injection eA with eA1 eA2 eA3
  subst eA1
  have hszs : ∀ k ∈ ks, k.size < 4000000000000 := fun k hk => by
    have h9 := HH.out.2.2.2.2.1 (L k) (H1.out.2.1.mem_iff.1 (List.mem_map_of_mem hk))
    rwa [T.L_len] at h9
  have q5 := Aside0.mk (fireTree w4 tb root ht4 hM4 A c ks hstr hty (by have := HN.out; omega) hszs)
  rw [HN.out] at q5
  have v0 : w4.cell? ⟨v, 0, none⟩ = some (.pointer (some ⟨tb, 0, none⟩)) := by rw [blk_cell (hfp _ _ _ _ HH.out.1.ver rfl)]; rfl
  have hbV : b ≠ V := by have := (Array.getElem?_eq_some_iff.1 H2.out.2.2.1.base).1; have := H3.out.2.2.2; omega
  have hob4 : w4.heap[b]? = some (.cells #[ptr V, .int .i32 1, .int .u32 0] 99 (0, 0)) := by rw [hw4]; exact set_atG H3.out.2.2.1.base 0 _
  have hov4 : w4.heap[V]? = some (.cells #[ptr tx, .int .u64 (n + 1)] 102 (0, 0)) := by rw [hw4]; exact (Below.heap_setCell _ _ _ V (Ne.symm hbV)).trans H3.out.2.1
  have H4 := Aside0.mk (And.intro ho4 (And.intro hcb (And.intro hfp (And.intro hob4 (And.intro hov4 hbV)))))
  clear hw4 ho4 hcb hfp ht4 hM4 hfp3 hrow4 hstr hty hszs eA2 eA3 hob4 hov4 hbV HW4
  unfold ptr at q5
  go_wp2_with fail
  go_at_call 67
  refine q5.out.mono ?_
  rintro e w5 ⟨rfl, hsh⟩
  have hob5 := hsh.farP _ _ _ _ H4.out.2.2.2.1 rfl
  have hov5 := hsh.farP _ _ _ _ H4.out.2.2.2.2.1 rfl
  have H5 := Aside0.mk (And.intro hsh (And.intro hob5 hov5))
  clear hsh hob5 hov5 v0 q5
  go_wp2_with fail
  refine leaves_cons (f := 66) (args := #[.pointer (some ⟨b, 1, none⟩)]) (by simp) (by simp [go_sem]) ?_
  refine (unlock_deferred ⟨b, 1, none⟩ _ w5 (by rw [blk_cell H5.out.2.1]; rfl) (blk_frozen H5.out.2.1 1)).mono ?_
  rintro e u' w6 ⟨rfl, rfl, rfl⟩
  have hdone : Done w (w5.setCell ⟨b, 1, none⟩ (.int .i32 0)) b x tb tx n root D (fireAll w4 root ks).2 := by
    have ho6 : Only (fun k => k = b) w5 (w5.setCell ⟨b, 1, none⟩ (.int .i32 0)) := (Only.refl (fun k => k = b) w5).put b 1 (.inl rfl) _
    have hc6 : CellsOf w5 (fun t => t == 99) (fun k => k = b) := fun k e => by rw [e]; exact ⟨_, _, _, H5.out.2.1, rfl⟩
    refine ⟨⟨V, set_atG H5.out.2.1 1 _, (Below.heap_setCell _ _ _ V (Ne.symm H4.out.2.2.2.2.2)).trans H5.out.2.2⟩, ?_, fun c d hw => ?_, ⟨w4, ks, fun c d hw => H4.out.1.watch H4.out.2.1 rfl hw, H1.out.2.1, rfl⟩, fun B h1 h2 h3 h4 => ?_, ?_, ?_, ?_⟩
    · have f1 : FarP tAll w w4 := H4.out.2.2.1.mono (fun t h => by unfold tAll at h; unfold tXB; rw [Bool.or_eq_false_iff] at h; exact h.1)
      have f2 : FarP tAll w4 w5 := H5.out.1.farP.mono (fun t h => by unfold tAll at h; rw [Bool.or_eq_false_iff] at h; exact h.2)
      have f3 : FarP tAll w5 (w5.setCell ⟨b, 1, none⟩ (.int .i32 0)) := (ho6.farP hc6).mono (fun t h => by unfold tAll at h; rw [Bool.or_eq_false_iff, Bool.or_eq_false_iff] at h; exact h.1.2)
      exact (f1.trans f2).trans f3
    · have h5 := H5.out.1.watch c d (H4.out.1.watch H4.out.2.1 rfl hw)
      exact ⟨_, ho6.watch hc6 rfl h5⟩
    · have b1 := H4.out.1.below B h1 (fun k _ e => by rcases e with e | e <;> omega)
      have b2 := H5.out.1.below B (Nat.le_trans h1 H4.out.1.size) (fun c d _ hS => by
        obtain ⟨m, hm1, hm2⟩ := fireAll_mks w4 root ks c hS
        rw [← hm2]
        exact h4 m hm1)
      exact (b1.trans b2).trans (ho6.below B (Nat.le_trans (Nat.le_trans h1 H4.out.1.size) H5.out.1.size) (fun k _ e => by omega))
    · exact Nat.le_trans (Nat.le_trans H4.out.1.size H5.out.1.size) ho6.size
    · exact ((H4.out.1.farD H4.out.2.1).trans H5.out.1.farD).trans (ho6.farD hc6)
    · refine ⟨w4, ks, fun c d hw => H4.out.1.watch H4.out.2.1 rfl hw, H1.out.2.1, fun c d hw => ?_⟩
      exact ho6.watch hc6 rfl (H5.out.1.watch c d (H4.out.1.watch H4.out.2.1 rfl hw))
  simp [Leaves, settle, results, Tryz.results30, go_sem]
  exact hdone
end Go.Proofs.YtjhgknagmiekeaaGreat.G
set_option linter.unusedVariables false
set_option linter.unusedSimpArgs false
namespace Go.Proofs.YtjhgknagmiekeaaGreat.G
open Go.RowKit Go.Lib Go.Proofs Go.Conc Go.Maps
open Go.Proofs.YtjhgknagmiekeaaGreatW.PrintWords hiding Kept
open Go.Proofs.YtjhgknagmiekeaaGreatW.PrintLast
open Go.Proofs.YtjhgknagmiekeaaGreat.T (Nd NdAt ptr Tr L All valT wasV Lf Strs delN)
theorem delM (w : World) (tb : Nat) (root : Nd) (h : Tr w tb root) (k : ByteArray) (hk : k.size < 4000000000000) (hs : (All root).length < 3999999999999) :
    Calls Tryz.prog 25 #[ptr tb, .string k] w fun e w' => ∃ tb' root', e = .returned (wasV tb' (valT root (L k))) ∧ Tr w' tb' root' ∧ (∀ r, valT root' r = if r = L k then none else valT root r) ∧ (All root').length ≤ (All root).length ∧ (∀ m ∈ mks root', m ∈ mks root ∨ ∃ c, m = ptr (c + 1) ∧ w.heap.size ≤ c ∧ WatchAt w' (c + 1) c false) ∧ Below w.heap.size w w' := by
  cases e : T.findT root (L k) with
  | none =>
    refine (T.treeDelete_none w tb root _ k h.at_ h.fine hk e).mono ?_
    rintro e' w' ⟨rfl, rfl⟩
    refine ⟨tb, root, by unfold valT; rw [e]; rfl, h, fun r => ?_, Nat.le_refl _, fun m hm => .inl hm, Below.refl _ _⟩
    split
    · rename_i hr; subst hr; unfold valT; rw [e]; rfl
    · rfl
  | some l =>
    obtain ⟨v, hv⟩ := h.vals _ l e
    have hpos : 0 < (All root).length := by
      have := (T.mem_all h.fine.toGood _ l).2 e
      exact List.length_pos_of_mem this
    refine (T.treeDelete_some w tb root _ k l v h.at_ h.fine hk (by omega) (by omega) e hv).mono ?_
    rintro e' w' ⟨tb', m, ns, rfl, h1, h2, h3, h4, hB⟩
    obtain ⟨f1, f2, f3⟩ := T.fine_del h.fine k l ns h2
    have hl := T.len_del h.fine k l ns h2
    refine ⟨tb', m, ?_, ⟨by rw [hl]; exact h1, f1, fun r l' e' => ?_⟩, T.valT_del h.fine k l ns h2, by omega, fun x hx => ?_, hB⟩
    · unfold valT; rw [e]; show _ = Ending.returned (.tuple #[ptr tb', l.val, .bool true]); rw [hv]
    · rw [f3] at e'
      split at e'
      · cases e'
      · exact h.vals r l' e'
    · rcases mks_del k.size k (Nat.le_refl _) root m ns l h2 x hx with h7 | ⟨j, h7⟩
      · exact .inl h7
      · obtain ⟨c, e1, e2, e3, e4⟩ := h4.mark j
        exact .inr ⟨c, h7.trans e1, e2, e4, e3⟩
attribute [local go_sem] Oper.semAt_some
set_option maxRecDepth 100000 in
set_option maxHeartbeats 1600000 in
theorem txnAbort (w : World) (x b v tb tx mb : Nat) (n : Int) (hb : BaseAt w b v tb n true) (hx : TxnAt w x b tx mb false) :
    Calls Tryz.prog 29 #[ptr x] w fun e w' => e = .returned (.int .i64 0) ∧ BaseAt w' b v tb n false ∧ Only (fun k => k = x ∨ k = b) w w' := by
  have x3 : w.cell? ⟨x, 3, none⟩ = some (.bool false) := by rw [blk_cell hx]; rfl
  have x0 : w.cell? ⟨x, 0, none⟩ = some (ptr b) := by rw [blk_cell hx]; rfl
  have f3 : w.frozen? ⟨x, 3, none⟩ = false := blk_frozen hx 3
  have hbx : b ≠ x := fun e => by
    have h1 := hb.base
    rw [e, hx] at h1
    cases h1
  have hvx : v ≠ x := fun e => by
    have h1 := hb.ver
    rw [e, hx] at h1
    cases h1
  obtain ⟨W, eW⟩ : ∃ W, w.setCell ⟨x, 3, none⟩ (.bool true) = W := ⟨_, rfl⟩
  have hb1 : BaseAt W b v tb n true := by rw [← eW]; exact hb.move (Below.heap_setCell _ _ _ b hbx) (Below.heap_setCell _ _ _ v hvx)
  have ho1 : Only (fun k => k = x) w W := by rw [← eW]; exact (Only.refl (fun k => k = x) w).put x 3 (.inl rfl) _
  have hx1 : TxnAt W x b tx mb true := by rw [← eW]; exact set_atG hx 3 _
  have q1 := Aside0.mk (unlock_held ⟨b, 1, none⟩ W (by rw [blk_cell hb1.base]; rfl) (blk_frozen hb1.base 1))
  have c0 : W.cell? ⟨x, 0, none⟩ = some (ptr b) := by rw [blk_cell hx1]; rfl
  have H := Aside0.mk (And.intro hb1 (And.intro ho1 hvx))
  have HE := Aside0.mk eW
  clear hb hx hb1 ho1 hbx hvx eW hx1
  unfold ptr at x0 c0 ⊢
  go_enter Tryz.func29, Tryz.ntmps29
  go_upto_region 4 with fail
  rw [HE.out]
  go_wp2_with fail
  go_at_call 66
  refine q1.out.mono ?_
  rintro e w2 ⟨rfl, hw2⟩
  subst hw2
  go_wp2_with fail
  go_ret
  refine ⟨rfl, ⟨set_atG H.out.1.base 1 _, (Below.heap_setCell _ _ _ v (Ne.symm H.out.1.ne)).trans H.out.1.ver⟩, (H.out.2.1.trans ((Only.refl (fun k => k = b) W).put b 1 (.inl rfl) _))⟩
set_option maxRecDepth 100000 in
set_option maxHeartbeats 4000000 in
theorem txnCommit0 (w : World) (x b v tb tx mb nn : Nat) (n : Int) (D : DataW Unit) (hb : BaseAt w b v tb n true) (hx : TxnAt w x b tx mb false) (hm : Tch w mb nn D) (hnn : nn < 1000000000000) (he : strKeys D = []) :
    Calls Tryz.prog 30 #[ptr x] w fun e w' => e = .returned (.tuple #[.int .i64 0, .int .i64 0]) ∧ BaseAt w' b v tb n false ∧ Only (fun k => k = x ∨ k = b) w w' := by
  have q1 := Aside0.mk (txnTouched w x b tx mb nn D hx hm hnn)
  have x3 : w.cell? ⟨x, 3, none⟩ = some (.bool false) := by rw [blk_cell hx]; rfl
  have hbx : b ≠ x := fun e => by
    have h1 := hb.base
    rw [e, hx] at h1
    cases h1
  have hvx : v ≠ x := fun e => by
    have h1 := hb.ver
    rw [e, hx] at h1
    cases h1
  have HH := Aside0.mk (And.intro hb (And.intro hx (And.intro he (And.intro hbx hvx))))
  have hnot : ∀ (x : Bool) (w : World), (Op.unary .not (.bool x)).run Tryz.prog w = .ok (.bool (!x)) w := fun _ _ => rfl
  clear hb hx hm hnn he hbx hvx
  unfold ptr at q1 ⊢
  go_enter_defers Tryz.func30, Tryz.ntmps30
  go_wp2_with fail
  go_at_call 50
  refine q1.out.mono ?_
  rintro e w1 ⟨vv, ks, rfl, hrow, hperm, hb1⟩
  have hx1 := (hb1.block _ (Array.getElem?_eq_some_iff.1 HH.out.2.1).1).trans HH.out.2.1
  have hbA := HH.out.1.move (hb1.block _ (Array.getElem?_eq_some_iff.1 HH.out.1.base).1) (hb1.block _ (Array.getElem?_eq_some_iff.1 HH.out.1.ver).1)
  have y0 : w1.cell? ⟨x, 0, none⟩ = some (.pointer (some ⟨b, 0, none⟩)) := by rw [blk_cell hx1]; rfl
  have y3 : w1.cell? ⟨x, 3, none⟩ = some (.bool false) := by rw [blk_cell hx1]; rfl
  have g3 : w1.frozen? ⟨x, 3, none⟩ = false := blk_frozen hx1 3
  obtain ⟨A, c, rfl, hstr, hty⟩ := hrow.slice
  have hkl : ks = [] := by
    have h9 := hperm.length_eq
    rw [HH.out.2.2.1, List.length_map, List.length_nil] at h9
    exact List.length_eq_zero_iff.1 h9
  subst hkl
  have H1 := Aside0.mk (And.intro hbA (And.intro hb1 hx1))
  clear hrow hperm hb1 hx1 hstr hty q1 x3 hbA
  rw [List.length_nil]
  go_upto_region 5 with fail
  obtain ⟨W2, eW2⟩ : ∃ W2, w1.setCell ⟨x, 3, none⟩ (.bool true) = W2 := ⟨_, rfl⟩
  have ho2 : Only (fun k => k = x) w W2 := by rw [← eW2]; exact (Only.of (p := fun k => k = x) H1.out.2.1).put x 3 (.inl rfl) _
  have hb2 : BaseAt W2 b v tb n true := by rw [← eW2]; exact H1.out.1.move (Below.heap_setCell _ _ _ b HH.out.2.2.2.1) (Below.heap_setCell _ _ _ v HH.out.2.2.2.2)
  have hx2 : TxnAt W2 x b tx mb true := by rw [← eW2]; exact set_atG H1.out.2.2 3 _
  have x0 : W2.cell? ⟨x, 0, none⟩ = some (.pointer (some ⟨b, 0, none⟩)) := by rw [blk_cell hx2]; rfl
  have H2 := Aside0.mk (And.intro ho2 hb2)
  rw [eW2]
  clear y0 y3 g3 ho2 hb2 eW2 hx2
  go_wp2_with fail
  refine leaves_cons (f := 66) (args := #[.pointer (some ⟨b, 1, none⟩)]) (by simp) (by simp [go_sem]) ?_
  refine (unlock_deferred ⟨b, 1, none⟩ _ W2 (by rw [blk_cell H2.out.2.base]; rfl) (blk_frozen H2.out.2.base 1)).mono ?_
  rintro e u' w6 ⟨rfl, rfl, rfl⟩
  have hend : BaseAt (W2.setCell ⟨b, 1, none⟩ (.int .i32 0)) b v tb n false ∧ Only (fun k => k = x ∨ k = b) w (W2.setCell ⟨b, 1, none⟩ (.int .i32 0)) :=
    ⟨⟨set_atG H2.out.2.base 1 _, (Below.heap_setCell _ _ _ v (Ne.symm H2.out.2.ne)).trans H2.out.2.ver⟩, H2.out.1.trans ((Only.refl (fun k => k = b) W2).put b 1 (.inl rfl) _)⟩
  simp [Leaves, settle, results, Tryz.results30, go_sem]
  exact hend
set_option maxRecDepth 100000 in
set_option maxHeartbeats 4000000 in
theorem txnDrop (w : World) (x b tx mb nn : Nat) (D : DataW Unit) (root : Nd) (hx : TxnAt w x b tx mb false) (hm : Tch w mb nn D) (hnn : nn < 1000000000000) (ht : Tr w tx root) (k : ByteArray) (hk : k.size < 4000000000000) (hs : (All root).length < 3999999999999) :
    Calls Tryz.prog 24 #[ptr x, .string k] w fun e w' => ∃ (old : Int) (tx' : Nat) (root' : Nd) (D' : DataW Unit), e = .returned (.tuple #[.int .i64 old, .bool (valT root (L k)).isSome, .int .i64 0]) ∧ TxnAt w' x b tx' mb false ∧ Tch w' mb (nn + 1) D' ∧ (D' = D ∧ valT root (L k) = none ∨ valT root (L k) ≠ none ∧ ∃ c : Int, D' = D.put (.string k.data.toList) (.lit (.int .i64 c))) ∧ Tr w' tx' root' ∧ (∀ r, valT root' r = if r = L k then none else valT root r) ∧ (All root').length ≤ (All root).length ∧
      (∀ m ∈ mks root', m ∈ mks root ∨ ∃ c, m = ptr (c + 1) ∧ w.heap.size ≤ c ∧ WatchAt w' (c + 1) c false) ∧ Only (fun j => j = mb ∨ j = x) w w' := by
  have x1 : w.cell? ⟨x, 1, none⟩ = some (ptr tx) := by rw [blk_cell hx]; rfl
  have x3 : w.cell? ⟨x, 3, none⟩ = some (.bool false) := by rw [blk_cell hx]; rfl
  have q1 := Aside0.mk (delM w tx root ht k hk hs)
  have HW := Aside0.mk (fun tb => was_form ht.vals tb (L k))
  have HX := Aside0.mk (And.intro hx (And.intro hm ht))
  have HK := Aside0.mk (keyOf_str k hk)
  have hmx : Aside0 (mb ≠ x) := ⟨fun e => by
    obtain ⟨es, cl, h1, -⟩ := hm
    rw [e, hx] at h1
    cases h1⟩
  obtain ⟨o, eo⟩ : ∃ o, valT root (L k) = o := ⟨_, rfl⟩
  rw [eo] at q1 HW
  have HEO := Aside0.mk eo
  rw [eo]
  obtain ⟨had, ehad⟩ : ∃ h, o.isSome = h := ⟨_, rfl⟩
  have hiff : had = true ↔ o ≠ none := by rw [← ehad]; cases o <;> simp
  rw [ehad]
  have HHAD := Aside0.mk ehad
  clear hx hm ht eo ehad
  unfold ptr at x1 q1 ⊢
  go_enter Tryz.func24, Tryz.ntmps24
  go_wp2_with fail
  go_at_call 25
  refine q1.out.mono ?_
  rintro e w2 ⟨tb', root', rfl, ht2, hv2, hl2, hm2, hb2⟩
  have hwas : ∃ (ox : Int), wasV tb' o = .tuple #[ptr tb', .int .i64 ox, .bool had] := by
    rw [← HHAD.out]
    obtain ⟨ox, oh, eab⟩ := HW.out tb'
    cases o with
    | none => exact ⟨0, rfl⟩
    | some v => exact ⟨ox, by
        have h9 : Value.tuple #[ptr tb', v, .bool true] = .tuple #[ptr tb', .int .i64 ox, .bool oh] := eab
        show Value.tuple #[ptr tb', v, .bool true] = _
        injection h9 with h9
        have h10 := congrArg (fun a => a[1]?) h9
        have h11 : some v = some (.int .i64 ox) := h10
        injection h11 with h11
        rw [h11]
        rfl⟩
  obtain ⟨ox, eab⟩ := hwas
  rw [eab]
  have hx2 := (hb2.block _ (Array.getElem?_eq_some_iff.1 HX.out.1).1).trans HX.out.1
  have hm2' : Tch w2 mb nn D := by
    exact HX.out.2.1.kept (row := none) ⟨hb2.os, hb2.tape, hb2.output, hb2.size, fun i hi _ => hb2.block i hi⟩ (by simp)
  have f1 : w2.frozen? ⟨x, 1, none⟩ = false := blk_frozen hx2 1
  have z1 : w2.cell? ⟨x, 1, none⟩ = some (.pointer (some ⟨tx, 0, none⟩)) := by rw [blk_cell hx2]; rfl
  obtain ⟨W3, eW3⟩ : ∃ W3, w2.setCell ⟨x, 1, none⟩ (ptr tb') = W3 := ⟨_, rfl⟩
  have hfar : ∀ j, j ≠ x → W3.heap[j]? = w2.heap[j]? := fun j hj => by rw [← eW3]; exact Below.heap_setCell _ _ _ j hj
  have hx3 : TxnAt W3 x b tb' mb false := by rw [← eW3]; exact set_atG hx2 1 _
  have hm3 : Tch W3 mb nn D := by rw [← eW3]; exact hm2'.setCell (a := ⟨x, 1, none⟩) hmx.out _
  have hfp : FarP (fun t => t == 117) w2 W3 := fun j cs t fr hj ht => (hfar j (fun e => by
    subst e
    rw [hx2] at hj
    injection hj with e1
    injection e1 with _ e2 _
    rw [← e2] at ht
    cases ht)).trans hj
  have ht3 := hfp.tr rfl rfl rfl rfl ht2
  have ho3 : Only (fun j => j = x) w W3 := by rw [← eW3]; exact (Only.of (p := fun j => j = x) hb2).put x 1 (.inl rfl) _
  have hmk3 : ∀ m ∈ mks root', m ∈ mks root ∨ ∃ c, m = ptr (c + 1) ∧ w.heap.size ≤ c ∧ WatchAt W3 (c + 1) c false := fun m hm => by
    rcases hm2 m hm with h | ⟨c, h1, h2, h3⟩
    · exact .inl h
    · have hlt : x < w.heap.size := (Array.getElem?_eq_some_iff.1 HX.out.1).1
      exact .inr ⟨c, h1, h2, h3.move (hfar _ (by omega)) (hfar _ (by omega))⟩
  obtain ⟨cv, hrun, hat, hwf⟩ := World.ownsMap.lookup_int hm3 (string_keyed Tryz.underlying9) Tryz.underlying115 Tryz.underlying3 (by kernel_rfl) HK.out
  have x2 : W3.cell? ⟨x, 2, none⟩ = some (.map (some mb)) := by rw [blk_cell hx3]; rfl
  have HB := Aside0.mk (And.intro hiff (And.intro hv2 hl2))
  have H3 := Aside0.mk (And.intro hx3 (And.intro hm3 (And.intro ht3 (And.intro ho3 hmk3))))
  have HE3 := Aside0.mk eW3
  clear hb2 hx2 hm2' eab eW3 hfar hx3 hm3 hfp ht3 ho3 hmk3 ht2 hv2 hl2 hm2 q1 HW hat hiff x1 x3 HHAD
  unfold ptr at HE3 ⊢
  go_upto_region 6 with fail
  rw [HE3.out]
  clear f1 z1
  cases had with
  | false =>
    go_wp2_with fail
    go_ret3
    refine ⟨ox, tb', root', D, rfl, H3.out.1, H3.out.2.1.mono (Nat.le_succ _), .inl ⟨rfl, ?_⟩, H3.out.2.2.1, HB.out.2.1, HB.out.2.2, H3.out.2.2.2.2, H3.out.2.2.2.1.imp (fun k _ h => .inr h)⟩
    by_cases h9 : o = none
    · exact h9
    · exact absurd (HB.out.1.2 h9) (by simp)
  | true =>
    go_wp2_with (at_mapUpdate; refine wpList_mapUpdate_own _ rfl _ _ _ 115 rfl 9 3 (string_keyed Tryz.underlying9) Tryz.underlying115 (plainElem Tryz.prog 3) mb nn D rfl H3.out.2.1 (by unfold maxLen; omega) _ _ (.string k.data.toList) rfl rfl HK.out (.lit (.int .i64 (wrap64 (cv + 1)))) [] (plainElem_int Tryz.underlying3 (RowKit.wrap64_wf _)) ?_)
    intro w4 hm4 hg4
    have ho4 := only_grown hg4
    have HM4 := Aside0.mk (And.intro hm4 ho4)
    clear hm4 hg4 ho4
    go_wp2_with fail
    go_ret3
    have hmap : ∀ (j : Nat) (cs : Array Value) (t : TypeId) (fr : Nat × Nat), W3.heap[j]? = some (.cells cs t fr) → j ≠ mb := fun j cs t fr hj e => by
      obtain ⟨es, cl, h1, -⟩ := H3.out.2.1
      rw [e, h1] at hj
      cases hj
    have hfp4 : FarP (fun _ => false) W3 w4 := fun j cs t fr hj _ => HM4.out.2.at hj (hmap j cs t fr hj)
    refine ⟨ox, tb', root', _, rfl, HM4.out.2.at H3.out.1 (fun e => hmx.out e.symm), HM4.out.1, .inr ⟨HB.out.1.1 (by first | rfl | trivial), _, rfl⟩, hfp4.tr rfl rfl rfl rfl H3.out.2.2.1, HB.out.2.1, HB.out.2.2, fun m hm => ?_, (H3.out.2.2.2.1.trans HM4.out.2).imp (fun k _ h => h.symm)⟩
    rcases H3.out.2.2.2.2 m hm with h | ⟨c, h1, h2, h3⟩
    · exact .inl h
    · refine .inr ⟨c, h1, h2, ⟨hfp4 _ _ _ _ h3.obj rfl, HM4.out.2.far c (Array.getElem?_eq_some_iff.1 h3.ch).1 (fun e => ?_) |>.trans h3.ch⟩⟩
      obtain ⟨es, cl, h9, -⟩ := H3.out.2.1
      have h10 := h3.ch
      rw [e, h9] at h10
      cases h10
end Go.Proofs.YtjhgknagmiekeaaGreat.G
set_option linter.unusedVariables false
set_option linter.unusedSimpArgs false
namespace Go.Proofs.YtjhgknagmiekeaaGreat.G
open Go.RowKit Go.Lib Go.Proofs Go.Conc
open Go.Proofs.YtjhgknagmiekeaaGreatW.PrintWords hiding Kept
open Go.Proofs.YtjhgknagmiekeaaGreat.T
theorem node_join {x k : Nd} {b : Nat} {t : List UInt8} (ht : t ≠ []) : nodeT (joinN x k b) t = nodeT k t := by
  rw [nodeT_eq _ _ ht, nodeT_eq _ _ ht]
  rfl
theorem downN_parts {n m : Nd} {rest : ByteArray} (h : downN n rest = some m) : ∃ hlt : pos (n.kids.map fb) (fbS rest) < n.kids.length, n.kids[pos (n.kids.map fb) (fbS rest)] = m ∧ L m.label <+: L rest := by
  unfold downN at h
  split at h
  · cases h
  · obtain ⟨k, hk, h2⟩ := Option.bind_eq_some_iff.1 h
    obtain ⟨_, hlt, ek⟩ := kidN_some hk
    split at h2
    · rename_i hp
      cases h2
      exact ⟨hlt, ek, List.isPrefixOf_iff_prefix.1 hp⟩
    · cases h2
theorem node_keepD : ∀ (N : Nat) (rest : ByteArray), rest.size ≤ N → ∀ n, Ok n → ∀ (x : Nd) (l : Lf) (ns : Sup), delN n rest ns = some (x, l) → ∀ (r : List UInt8) (X : Nd), nodeT n r = some X → ¬ r <+: L rest → ∃ X', nodeT x r = some X' ∧ X'.mark = X.mark := by
  intro N
  induction N with
  | zero =>
    intro rest hN n ho x l ns hd r X h hr
    have hox : Ok x := by
      cases e : findT n (L rest) with
      | none => rw [(del_find 0 rest hN n ho ns).1 e] at hd; cases hd
      | some l' =>
        obtain ⟨m', h1, h2, h3, h4⟩ := (del_find 0 rest hN n ho ns).2 l' e
        rw [hd] at h1; cases h1; exact h3
    rcases nodeT_of ho h with ⟨e, -⟩ | ⟨k, hk, t, e, ht⟩
    · exact absurd (by rw [e]; exact List.nil_prefix) hr
    subst e
    rcases delN_some hd with ⟨h0, h1, h2⟩ | ⟨h0, _⟩
    · rw [h2] at hox ⊢
      exact ⟨X, (nodeT_kid hox (k := k) hk t).trans ht, rfl⟩
    · omega
  | succ N ih =>
    intro rest hN n ho x l ns hd r X h hr
    have hox : Ok x := by
      cases e : findT n (L rest) with
      | none => rw [(del_find (N + 1) rest hN n ho ns).1 e] at hd; cases hd
      | some l' =>
        obtain ⟨m', h1, h2, h3, h4⟩ := (del_find (N + 1) rest hN n ho ns).2 l' e
        rw [hd] at h1; cases h1; exact h3
    rcases nodeT_of ho h with ⟨e, -⟩ | ⟨k, hk, t, e, ht⟩
    · exact absurd (by rw [e]; exact List.nil_prefix) hr
    subst e
    rcases delN_some hd with ⟨h0, h1, h2⟩ | ⟨h0, k0, low, hdn, hp, hdel, h2⟩
    · rw [h2] at hox ⊢
      exact ⟨X, (nodeT_kid hox (k := k) hk t).trans ht, rfl⟩
    · obtain ⟨hlt, ek, hpre⟩ := downN_parts hdn
      obtain ⟨j, hj, ej⟩ := List.getElem_of_mem hk
      rw [h2] at hox ⊢
      by_cases hji : pos (n.kids.map fb) (fbS rest) = j
      · subst hji
        have ekk : k = k0 := ej.symm.trans ek
        subst ekk
        have hnp : ¬ t <+: L (rest.extract k.label.size rest.size) := fun hp2 => hr (by
          obtain ⟨u, hu⟩ := hpre
          have e2 : L (rest.extract k.label.size rest.size) = u := by
            rw [L_extract, List.take_of_length_le (by rw [L_len]; exact Nat.le_refl _), ← hu, ← L_len, List.drop_left]
          rw [e2] at hp2
          rw [← hu]
          exact (List.prefix_append_right_inj _).2 hp2)
        have hok0 := ho.parts.2.2.get k hk
        have hsz : (rest.extract k.label.size rest.size).size ≤ N := by simp only [ByteArray.size_extract]; omega
        obtain ⟨X', h5, h6⟩ := ih _ hsz k hok0 low l _ hdel t X ht hnp
        have htne : t ≠ [] := fun e => hnp (by rw [e]; exact List.nil_prefix)
        have hlow : low.label = k.label ∧ Ok low := by
          cases e : findT k (L (rest.extract k.label.size rest.size)) with
          | none => rw [(del_find N _ hsz k hok0 (fun j => ns (j + 2))).1 e] at hdel; cases hdel
          | some l' =>
            obtain ⟨m', h1, h2, h3, h4⟩ := (del_find N _ hsz k hok0 (fun j => ns (j + 2))).2 l' e
            rw [hdel] at h1; cases h1; exact ⟨h2, h3⟩
        rcases shaped_cases low (ns 1).1 with ⟨hs, -⟩ | ⟨hl, hkids, hs⟩ | ⟨k', hl, hkids, hs⟩
        · rw [hs] at hox ⊢
          have e1 := nodeT_kid hox (k := low) (at_set hlt) t
          rw [hlow.1] at e1
          exact ⟨X', e1.trans h5, h6⟩
        · rw [nodeT_eq _ _ htne, hkids] at h5
          cases h5
        · rw [hs] at hox ⊢
          rcases nodeT_of hlow.2 h5 with ⟨e, -⟩ | ⟨k2, hk2, t2, e2, h7⟩
          · exact absurd e htne
          · rw [hkids] at hk2
            have e9 := List.mem_singleton.1 hk2
            subst e9
            have e1 := nodeT_kid hox (k := joinN low k2 (ns 1).1) (at_set hlt) t2
            have e3 : L (joinN low k2 (ns 1).1).label = L k.label ++ L k2.label := by
              show L (low.label ++ k2.label) = _
              rw [L_append, hlow.1]
            rw [e3, List.append_assoc, ← e2] at e1
            by_cases ht2 : t2 = []
            · rw [ht2, nodeT_nil] at e1 h7
              cases h7
              exact ⟨_, e1, h6⟩
            · exact ⟨X', e1.trans ((node_join ht2).trans h7), h6⟩
      · have hm : k ∈ putKid n.kids (pos (n.kids.map fb) (fbS rest)) (shapedN low (ns 1).1) := by
          cases shapedN low (ns 1).1 with
          | none => exact List.mem_eraseIdx_iff_getElem.2 ⟨j, hj, fun e => hji e.symm, ej⟩
          | some s => exact List.mem_iff_getElem.2 ⟨j, by show j < (n.kids.set _ s).length; rw [List.length_set]; exact hj, by show (n.kids.set _ s)[j]'_ = k; rw [List.getElem_set_ne hji]; exact ej⟩
        exact ⟨X, (nodeT_kid hox (k := k) hm t).trans ht, rfl⟩
end Go.Proofs.YtjhgknagmiekeaaGreat.G
set_option linter.unusedVariables false
set_option linter.unusedSimpArgs false
namespace Go.Proofs.YtjhgknagmiekeaaGreat.G
open Go.RowKit Go.Lib Go.Proofs Go.Conc Go.Maps
open Go.Proofs.YtjhgknagmiekeaaGreatW.PrintWords hiding Kept
open Go.Proofs.YtjhgknagmiekeaaGreat.T
theorem node_newD : ∀ (N : Nat) (rest : ByteArray), rest.size ≤ N → ∀ n, Ok n → ∀ (x : Nd) (l : Lf) (ns : Sup), delN n rest ns = some (x, l) → ∀ (r : List UInt8) (X' : Nd), nodeT x r = some X' → (∃ r' X, nodeT n r' = some X ∧ X'.mark = X.mark) ∨ ∃ j, X'.mark = (ns j).2 := by
  intro N
  induction N with
  | zero =>
    intro rest hN n ho x l ns hd r X' h
    have hox : Ok x := by
      cases e : findT n (L rest) with
      | none => rw [(del_find 0 rest hN n ho ns).1 e] at hd; cases hd
      | some l' =>
        obtain ⟨m', h1, h2, h3, h4⟩ := (del_find 0 rest hN n ho ns).2 l' e
        rw [hd] at h1; cases h1; exact h3
    rcases delN_some hd with ⟨h0, h1, h2⟩ | ⟨h0, _⟩
    · rw [h2] at hox h
      rcases nodeT_of hox h with ⟨-, e⟩ | ⟨y, hy, t, e, ht⟩
      · exact .inr ⟨0, by rw [e]; rfl⟩
      · exact .inl ⟨_, X', (nodeT_kid ho (k := y) hy t).trans ht, rfl⟩
    · omega
  | succ N ih =>
    intro rest hN n ho x l ns hd r X' h
    have hox : Ok x := by
      cases e : findT n (L rest) with
      | none => rw [(del_find (N + 1) rest hN n ho ns).1 e] at hd; cases hd
      | some l' =>
        obtain ⟨m', h1, h2, h3, h4⟩ := (del_find (N + 1) rest hN n ho ns).2 l' e
        rw [hd] at h1; cases h1; exact h3
    rcases delN_some hd with ⟨h0, h1, h2⟩ | ⟨h0, k0, low, hdn, hp, hdel, h2⟩
    · rw [h2] at hox h
      rcases nodeT_of hox h with ⟨-, e⟩ | ⟨y, hy, t, e, ht⟩
      · exact .inr ⟨0, by rw [e]; rfl⟩
      · exact .inl ⟨_, X', (nodeT_kid ho (k := y) hy t).trans ht, rfl⟩
    · rw [h2] at hox h
      have hkm := (downN_some hdn).1
      have hok0 := ho.parts.2.2.get k0 hkm
      have hsz : (rest.extract k0.label.size rest.size).size ≤ N := by simp only [ByteArray.size_extract]; omega
      have hlow : Ok low := by
        cases e : findT k0 (L (rest.extract k0.label.size rest.size)) with
        | none => rw [(del_find N _ hsz k0 hok0 (fun j => ns (j + 2))).1 e] at hdel; cases hdel
        | some l' =>
          obtain ⟨m', h1, h2, h3, h4⟩ := (del_find N _ hsz k0 hok0 (fun j => ns (j + 2))).2 l' e
          rw [hdel] at h1; cases h1; exact h3
      have hI : ∀ (t : List UInt8) (Y : Nd), nodeT low t = some Y → (∃ r' X, nodeT n r' = some X ∧ Y.mark = X.mark) ∨ ∃ j, Y.mark = (ns j).2 := fun t Y hY => by
        rcases ih _ hsz k0 hok0 low l _ hdel t Y hY with ⟨r', X, h1, h2⟩ | ⟨j, h1⟩
        · exact .inl ⟨_, X, (nodeT_kid ho (k := k0) hkm r').trans h1, h2⟩
        · exact .inr ⟨j + 2, h1⟩
      rcases nodeT_of hox h with ⟨-, e⟩ | ⟨y, hy, t, e, ht⟩
      · exact .inr ⟨0, by rw [e]; rfl⟩
      · rcases mem_putKid hy with hy | hy
        · exact .inl ⟨_, X', (nodeT_kid ho (k := y) hy t).trans ht, rfl⟩
        · rcases shaped_cases low (ns 1).1 with ⟨hs, -⟩ | ⟨hl, hkids, hs⟩ | ⟨k', hl, hkids, hs⟩
          · rw [hs] at hy; cases hy
            exact hI t X' ht
          · rw [hs] at hy; cases hy
          · rw [hs] at hy; cases hy
            have hk' : k' ∈ low.kids := by rw [hkids]; exact List.mem_singleton.2 rfl
            by_cases ht2 : t = []
            · rw [ht2, nodeT_nil] at ht
              cases ht
              have e1 := nodeT_kid hlow hk' []
              rw [nodeT_nil] at e1
              exact hI _ k' e1
            · rw [node_join ht2] at ht
              exact hI _ X' ((nodeT_kid hlow hk' t).trans ht)
theorem delW (w : World) (tb : Nat) (root : Nd) (h : Tr w tb root) (hM : Mks w root) (hL : Lone root) (k : ByteArray) (hk : k.size < 4000000000000) (hs : (All root).length < 3999999999999) :
    Calls Tryz.prog 25 #[ptr tb, .string k] w fun e w' => ∃ tb' root', e = .returned (wasV tb' (valT root (L k))) ∧ Tr w' tb' root' ∧ (∀ r, valT root' r = if r = L k then none else valT root r) ∧ (All root').length ≤ (All root).length ∧ (∀ m ∈ mks root', m ∈ mks root ∨ ∃ c, m = ptr (c + 1) ∧ w.heap.size ≤ c ∧ WatchAt w' (c + 1) c false) ∧ Lone root' ∧
      (∀ r X, nodeT root r = some X → ¬ r <+: L k → ∃ X', nodeT root' r = some X' ∧ X'.mark = X.mark) ∧ (∀ r, r ≠ L k → findT root' r = findT root r) ∧ (valT root (L k) = none → root' = root) ∧ Below w.heap.size w w' := by
  cases e : findT root (L k) with
  | none =>
    refine (treeDelete_none w tb root _ k h.at_ h.fine hk e).mono ?_
    rintro e' w' ⟨rfl, rfl⟩
    refine ⟨tb, root, by unfold valT; rw [e]; rfl, h, fun r => ?_, Nat.le_refl _, fun m hm => .inl hm, hL, fun r X hX _ => ⟨X, hX, rfl⟩, fun r _ => rfl, fun _ => rfl, Below.refl _ _⟩
    split
    · rename_i hr; subst hr; unfold valT; rw [e]; rfl
    · rfl
  | some l =>
    obtain ⟨v, hv⟩ := h.vals _ l e
    have hpos : 0 < (All root).length := by
      have := (mem_all h.fine.toGood _ l).2 e
      exact List.length_pos_of_mem this
    refine (treeDelete_some w tb root _ k l v h.at_ h.fine hk (by omega) (by omega) e hv).mono ?_
    rintro e' w' ⟨tb', m, ns, rfl, h1, h2, h3, h4, hB⟩
    obtain ⟨f1, f2, f3⟩ := fine_del h.fine k l ns h2
    have hl := len_del h.fine k l ns h2
    have hleaf : ∀ r l', findT m r = some l' → findT root r = some l' := fun r l' h5 => by
      rw [f3] at h5
      split at h5
      · cases h5
      · exact h5
    refine ⟨tb', m, ?_, ⟨by rw [hl]; exact h1, f1, fun r l' e' => ?_⟩, valT_del h.fine k l ns h2, by omega, fun x hx => ?_, ⟨fun r l' q X hr hq => ?_, fun r r' l1 l2 hr hr' hne => hL.leaf r r' l1 l2 (hleaf r l1 hr) (hleaf r' l2 hr') hne⟩, fun r X hX hr => node_keepD k.size k (Nat.le_refl _) root h.fine.ok m l ns h2 r X hX hr, fun r hr => by rw [f3, if_neg hr], fun hno => ?_, hB⟩
    · unfold valT; rw [e]; show _ = Ending.returned (.tuple #[ptr tb', l.val, .bool true]); rw [hv]
    · exact h.vals r l' (hleaf r l' e')
    · rcases mks_del k.size k (Nat.le_refl _) root m ns l h2 x hx with h7 | ⟨j, h7⟩
      · exact .inl h7
      · obtain ⟨c, e1, e2, e3, e4⟩ := h4.mark j
        exact .inr ⟨c, h7.trans e1, e2, e4, e3⟩
    · have hr0 := hleaf r l' hr
      rcases node_newD k.size k (Nat.le_refl _) root h.fine.ok m l ns h2 q X hq with ⟨q', X0, hX, eX⟩ | ⟨j, eX⟩
      · rw [eX]; exact hL.node r l' q' X0 hr0 hX
      · obtain ⟨c, e1, e2, _, _⟩ := h4.mark j
        rw [eX, e1]
        exact fun e => mk_old (hM _ (leaf_mk h.fine.ok hr0)) e2 e.symm
    · unfold valT at hno; rw [e] at hno; cases hno
end Go.Proofs.YtjhgknagmiekeaaGreat.G
set_option linter.unusedVariables false
set_option linter.unusedSimpArgs false
namespace Go.Proofs.YtjhgknagmiekeaaGreat.G
open Go.RowKit Go.Lib Go.Proofs Go.Conc Go.Maps
open Go.Proofs.YtjhgknagmiekeaaGreatW.PrintWords hiding Kept
open Go.Proofs.YtjhgknagmiekeaaGreatW.PrintLast
open Go.Proofs.YtjhgknagmiekeaaGreat.T (Nd NdAt ptr Tr L All valT wasV Lf Strs delN)
section
open Go.Proofs.YtjhgknagmiekeaaGreat.T
theorem insW2 (w : World) (tb : Nat) (root : Nd) (h : Tr w tb root) (hM : Mks w root) (hL : Lone root) (k : ByteArray) (v : Int) (hk : k.size < 4000000000000) (hs : (All root).length < 3999999999999) :
    Calls Tryz.prog 27 #[ptr tb, .string k, .int .i64 v] w fun e w' => ∃ tb' root', e = .returned (wasV tb' (valT root (L k))) ∧ Tr w' tb' root' ∧ (∀ r, valT root' r = if r = L k then some (.int .i64 v) else valT root r) ∧ (All root').length ≤ (All root).length + 1 ∧ Mks w' root' ∧ (∀ x ∈ mks root', x ∈ mks root ∨ ∃ c, x = ptr (c + 1) ∧ w.heap.size ≤ c ∧ WatchAt w' (c + 1) c false) ∧ Lone root' ∧
      (∀ r X, nodeT root r = some X → ¬ r <+: L k → ∃ X', nodeT root' r = some X' ∧ X'.mark = X.mark) ∧ (∀ r, r ≠ L k → findT root' r = findT root r) ∧ (∃ l c, findT root' (L k) = some l ∧ l.mark = ptr (c + 1) ∧ w.heap.size ≤ c ∧ WatchAt w' (c + 1) c false) ∧ Below w.heap.size w w' := by
  refine (treeInsertM w tb root _ v k h.at_ h.fine.ok h.fine.sm hk (by omega) (by omega)).mono ?_
  rintro e w' ⟨tb', lb, m, ns, had, old, rfl, h1, h2, h3, h4, h5, h6, hne, hB⟩
  have hg := fine_ins h.fine k hk ⟨lb, k, .int .i64 v, m⟩ rfl ns
  have hl := len_ins h.fine.toGood k ⟨lb, k, .int .i64 v, m⟩ ns hg.toGood
  rw [find_eq h.fine.toGood] at h2
  have hfi := fun r => find_ins k.size k (Nat.le_refl _) root h.fine.ok ⟨lb, k, .int .i64 v, m⟩ ns r
  obtain ⟨cm, em, hcm, hm3, hm4⟩ := h5
  have hnode : ∀ q X', nodeT (insN root k ⟨lb, k, .int .i64 v, m⟩ ns) q = some X' → (MkAt w X'.mark ∧ ∃ q' X, nodeT root q' = some X ∧ X'.mark = X.mark) ∨ ∃ j, X'.mark = (ns j).2 := fun q X' hq => by
    rcases node_new k.size k (Nat.le_refl _) root h.fine.ok _ ns q X' hq with ⟨q', X, a, b⟩ | a
    · exact .inl ⟨by rw [b]; exact hM _ (node_mk h.fine.ok a), q', X, a, b⟩
    · exact .inr a
  refine ⟨tb', insN root k ⟨lb, k, .int .i64 v, m⟩ ns, ?_, ⟨?_, hg, vals_ins h.fine.toGood h.vals k _ v rfl ns⟩, valT_ins h.fine.toGood k _ ns, ?_, fun x hx => ?_, fun x hx => ?_, ⟨fun r l q X' hr hq => ?_, fun r r' l l' hr hr' hrr => ?_⟩, fun r X hX hr => node_keep k.size k (Nat.le_refl _) root h.fine.ok _ ns r X hX hr, fun r hr => by rw [hfi r, if_neg hr], ⟨⟨lb, k, .int .i64 v, m⟩, cm, by rw [hfi, if_pos rfl], em, hcm, hm4, hm3⟩, hB⟩
  · unfold valT
    cases e : findT root (L k) with
    | none => rw [e] at h2; cases h2; rfl
    | some l => rw [e] at h2; cases h2; rfl
  · have e : (All root).length + incr had = ((All (insN root k ⟨lb, k, .int .i64 v, m⟩ ns)).length : Int) := by
      rw [hl]
      cases e : findT root (L k) with
      | none => rw [e] at h2; cases h2; rfl
      | some l => rw [e] at h2; cases h2; rfl
    rw [← e]
    exact h1
  · have : (if findT root (L k) = none then (1 : Int) else 0) ≤ 1 := by split <;> omega
    omega
  · rcases mks_ins k.size k (Nat.le_refl _) root _ ns x hx with h7 | h7 | ⟨j, h7⟩
    · exact (hM x h7).imp (fun c d hw => ⟨d, hw.move (hB.block _ (Array.getElem?_eq_some_iff.1 hw.obj).1) (hB.block _ (Array.getElem?_eq_some_iff.1 hw.ch).1)⟩)
    · exact ⟨cm, false, h7.trans em, ⟨hm4, hm3⟩⟩
    · obtain ⟨c, e1, e2, e3, e4⟩ := h6.mark j
      exact ⟨c, false, h7.trans e1, ⟨e4, e3⟩⟩
  · rcases mks_ins k.size k (Nat.le_refl _) root _ ns x hx with h7 | h7 | ⟨j, h7⟩
    · exact .inl h7
    · exact .inr ⟨cm, h7.trans em, hcm, ⟨hm4, hm3⟩⟩
    · obtain ⟨c, e1, e2, e3, e4⟩ := h6.mark j
      exact .inr ⟨c, h7.trans e1, e2, ⟨e4, e3⟩⟩
  · rw [hfi] at hr
    rcases hnode q X' hq with ⟨hmk, q', X, hX, eX⟩ | ⟨j, eX⟩
    · split at hr
      · cases hr
        show X'.mark ≠ m
        rw [em]
        exact mk_old hmk hcm
      · rw [eX]
        exact hL.node r l q' X hr hX
    · split at hr
      · cases hr
        show X'.mark ≠ m
        rw [eX]
        exact fun e => hne j e.symm
      · obtain ⟨c, e1, e2, _, _⟩ := h6.mark j
        rw [eX, e1]
        exact fun e => mk_old (hM _ (leaf_mk h.fine.ok hr)) e2 e.symm
  · rw [hfi] at hr hr'
    split at hr
    · rename_i er
      rw [if_neg (fun e => hrr (er.trans e.symm))] at hr'
      cases hr
      show m ≠ l'.mark
      rw [em]
      exact fun e => mk_old (hM _ (leaf_mk h.fine.ok hr')) hcm e.symm
    · split at hr'
      · cases hr'
        show l.mark ≠ m
        rw [em]
        exact mk_old (hM _ (leaf_mk h.fine.ok hr)) hcm
      · exact hL.leaf r r' l l' hr hr' hrr
end
attribute [local go_sem] Oper.semAt_some
set_option maxRecDepth 100000 in
set_option maxHeartbeats 4000000 in
theorem txnSetW (w : World) (x b tx mb nn : Nat) (D : DataW Unit) (root : Nd) (hx : TxnAt w x b tx mb false) (hm : Tch w mb nn D) (hnn : nn < 1000000000000) (ht : Tr w tx root) (hM : Mks w root) (hL : Lone root) (k : ByteArray) (v : Int) (hk : k.size < 4000000000000) (hs : (All root).length < 3999999999999) :
    Calls Tryz.prog 26 #[ptr x, .string k, .int .i64 v] w fun e w' => ∃ (old : Int) (had : Bool) (tx' : Nat) (root' : Nd) (c : Int), e = .returned (.tuple #[.int .i64 old, .bool had, .int .i64 0]) ∧ TxnAt w' x b tx' mb false ∧ Tch w' mb (nn + 1) (D.put (.string k.data.toList) (.lit (.int .i64 c))) ∧ Tr w' tx' root' ∧ (∀ r, valT root' r = if r = L k then some (.int .i64 v) else valT root r) ∧ (All root').length ≤ (All root).length + 1 ∧
      (∀ m ∈ mks root', m ∈ mks root ∨ ∃ c, m = ptr (c + 1) ∧ w.heap.size ≤ c ∧ WatchAt w' (c + 1) c false) ∧ Lone root' ∧ (∀ r X, T.nodeT root r = some X → ¬ r <+: L k → ∃ X', T.nodeT root' r = some X' ∧ X'.mark = X.mark) ∧ (∀ r, r ≠ L k → T.findT root' r = T.findT root r) ∧ (∃ l c, T.findT root' (L k) = some l ∧ l.mark = ptr (c + 1) ∧ w.heap.size ≤ c ∧ WatchAt w' (c + 1) c false) ∧ Only (fun j => j = mb ∨ j = x) w w' := by
  obtain ⟨cv, hrun, hat, hwf⟩ := World.ownsMap.lookup_int hm (string_keyed Tryz.underlying9) Tryz.underlying115 Tryz.underlying3 (by kernel_rfl) (keyOf_str k hk)
  have x1 : w.cell? ⟨x, 1, none⟩ = some (ptr tx) := by rw [blk_cell hx]; rfl
  have x2 : w.cell? ⟨x, 2, none⟩ = some (.map (some mb)) := by rw [blk_cell hx]; rfl
  have x3 : w.cell? ⟨x, 3, none⟩ = some (.bool false) := by rw [blk_cell hx]; rfl
  have HX := Aside0.mk (And.intro hx (And.intro hm ht))
  have HML := Aside0.mk (And.intro hM hL)
  have HK := Aside0.mk (keyOf_str k hk)
  clear hx hm ht hat hM hL
  unfold ptr at x1 ⊢
  go_enter Tryz.func26, Tryz.ntmps26
  go_upto_region 4 with fail
  go_wp2_with (at_mapUpdate; refine wpList_mapUpdate_own _ rfl _ _ _ 115 rfl 9 3 (string_keyed Tryz.underlying9) Tryz.underlying115 (plainElem Tryz.prog 3) mb nn D rfl HX.out.2.1 (by unfold maxLen; omega) _ _ (.string k.data.toList) rfl rfl HK.out (.lit (.int .i64 (wrap64 (cv + 1)))) [] (plainElem_int Tryz.underlying3 (RowKit.wrap64_wf _)) ?_)
  intro w1 hm1 hg1
  have ho1 := only_grown hg1
  have hlt : x < w.heap.size := (Array.getElem?_eq_some_iff.1 HX.out.1).1
  have hmx : mb ≠ x := fun e => by
    obtain ⟨es, cl, h1, -⟩ := HX.out.2.1
    rw [e, HX.out.1] at h1
    cases h1
  have hx1 := ho1.at HX.out.1 (fun e => hmx e.symm)
  have y1 : w1.cell? ⟨x, 1, none⟩ = some (.pointer (some ⟨tx, 0, none⟩)) := by rw [blk_cell hx1]; rfl
  have hfar1 : FarP (fun _ => false) w w1 := fun j cs t fr hj _ => ho1.at hj (fun e => by
    obtain ⟨es, cl, h1, -⟩ := HX.out.2.1
    rw [e, h1] at hj
    cases hj)
  have ht1 : Tr w1 tx root := hfar1.tr rfl rfl rfl rfl HX.out.2.2
  have hM1 : Mks w1 root := fun m hm => (HML.out.1 m hm).imp (fun c d h9 => ⟨d, hfar1 _ _ _ _ h9.obj rfl, ho1.at h9.ch (fun e => by
    obtain ⟨es, cl, h1, -⟩ := HX.out.2.1
    have h2 := h9.ch
    rw [e, h1] at h2
    cases h2)⟩)
  have q1 := Aside0.mk (insW2 w1 tx root ht1 hM1 HML.out.2 k v hk hs)
  have HW := Aside0.mk (fun tb => was_form ht1.vals tb (L k))
  obtain ⟨o, eo⟩ : ∃ o, valT root (L k) = o := ⟨_, rfl⟩
  rw [eo] at q1 HW
  have H1 := Aside0.mk (And.intro hm1 (And.intro ho1 (And.intro hx1 (And.intro hmx ht1))))
  have HEO := Aside0.mk eo
  clear hm1 hg1 ho1 hx1 hfar1 hM1 ht1 x1 x2 x3 hrun eo
  unfold ptr at q1
  go_wp2_with fail
  go_at_call 27
  refine q1.out.mono ?_
  rintro e w2 ⟨tb', root', rfl, ht2, hv2, hl2, -, hm2, hlo2, hke2, hfi2, hnl2, hb2⟩
  have HLO := Aside0.mk (And.intro hlo2 (And.intro hke2 (And.intro hfi2 hnl2)))
  clear hlo2 hke2 hfi2 hnl2
  obtain ⟨ox, oh, eab⟩ := HW.out tb'
  rw [eab]
  have hx2 := (hb2.block _ (Array.getElem?_eq_some_iff.1 H1.out.2.2.1).1).trans H1.out.2.2.1
  have z1 : w2.cell? ⟨x, 1, none⟩ = some (.pointer (some ⟨tx, 0, none⟩)) := by rw [blk_cell hx2]; rfl
  have f1 : w2.frozen? ⟨x, 1, none⟩ = false := blk_frozen hx2 1
  have H2 := Aside0.mk (And.intro ht2 (And.intro hv2 (And.intro hl2 (And.intro hm2 (And.intro hb2 hx2)))))
  clear ht2 hv2 hl2 hm2 hb2 hx2 q1 HW eab y1
  unfold ptr
  go_wp2_with fail
  go_ret3
  have hfar : ∀ j, j ≠ x → (w2.setCell ⟨x, 1, none⟩ (ptr tb')).heap[j]? = w2.heap[j]? := fun j hj => Below.heap_setCell _ _ _ j hj
  have hfp : FarP (fun t => t == 117) w2 (w2.setCell ⟨x, 1, none⟩ (ptr tb')) := fun j cs t fr hj ht => (hfar j (fun e => by
    subst e
    rw [H2.out.2.2.2.2.2] at hj
    injection hj with e1
    injection e1 with _ e2 _
    rw [← e2] at ht
    cases ht)).trans hj
  have hb := H2.out.2.2.2.2.1
  have hmk : Tch w2 mb (nn + 1) (D.put (.string k.data.toList) (.lit (.int .i64 (wrap64 (cv + 1))))) := by
    have h9 := H1.out.1
    exact h9.kept (row := none) ⟨hb.os, hb.tape, hb.output, hb.size, fun i hi _ => hb.block i hi⟩ (by simp)
  refine ⟨ox, oh, tb', root', wrap64 (cv + 1), rfl, set_atG H2.out.2.2.2.2.2 1 _, hmk.setCell (a := ⟨x, 1, none⟩) H1.out.2.2.2.1 _, hfp.tr rfl rfl rfl rfl H2.out.1, H2.out.2.1, H2.out.2.2.1, fun m hm => ?_, HLO.out.1, HLO.out.2.1, HLO.out.2.2.1, ?_, ?_⟩
  · rcases H2.out.2.2.2.1 m hm with h | ⟨c, h1, h2, h3⟩
    · exact .inl h
    · refine .inr ⟨c, h1, Nat.le_trans H1.out.2.1.size h2, h3.move (hfar _ ?_) (hfar _ ?_)⟩
      · have := H1.out.2.1.size; omega
      · have := H1.out.2.1.size; omega
  · obtain ⟨l, c, h0, h1, h2, h3⟩ := HLO.out.2.2.2
    refine ⟨l, c, h0, h1, Nat.le_trans H1.out.2.1.size h2, h3.move (hfar _ ?_) (hfar _ ?_)⟩
    · have := H1.out.2.1.size; omega
    · have := H1.out.2.1.size; omega
  · exact ((H1.out.2.1.trans (Only.of (p := fun j => j = x) hb)).put x 1 (.inl (.inr rfl)) _)
set_option maxRecDepth 100000 in
set_option maxHeartbeats 4000000 in
theorem txnDropW (w : World) (x b tx mb nn : Nat) (D : DataW Unit) (root : Nd) (hx : TxnAt w x b tx mb false) (hm : Tch w mb nn D) (hnn : nn < 1000000000000) (ht : Tr w tx root) (hM : Mks w root) (hL : Lone root) (k : ByteArray) (hk : k.size < 4000000000000) (hs : (All root).length < 3999999999999) :
    Calls Tryz.prog 24 #[ptr x, .string k] w fun e w' => ∃ (old : Int) (tx' : Nat) (root' : Nd) (D' : DataW Unit), e = .returned (.tuple #[.int .i64 old, .bool (valT root (L k)).isSome, .int .i64 0]) ∧ TxnAt w' x b tx' mb false ∧ Tch w' mb (nn + 1) D' ∧ (D' = D ∧ valT root (L k) = none ∨ valT root (L k) ≠ none ∧ ∃ c : Int, D' = D.put (.string k.data.toList) (.lit (.int .i64 c))) ∧ Tr w' tx' root' ∧ (∀ r, valT root' r = if r = L k then none else valT root r) ∧ (All root').length ≤ (All root).length ∧
      (∀ m ∈ mks root', m ∈ mks root ∨ ∃ c, m = ptr (c + 1) ∧ w.heap.size ≤ c ∧ WatchAt w' (c + 1) c false) ∧ Lone root' ∧ (∀ r X, T.nodeT root r = some X → ¬ r <+: L k → ∃ X', T.nodeT root' r = some X' ∧ X'.mark = X.mark) ∧ (∀ r, r ≠ L k → T.findT root' r = T.findT root r) ∧ (valT root (L k) = none → root' = root) ∧ Only (fun j => j = mb ∨ j = x) w w' := by
  have x1 : w.cell? ⟨x, 1, none⟩ = some (ptr tx) := by rw [blk_cell hx]; rfl
  have x3 : w.cell? ⟨x, 3, none⟩ = some (.bool false) := by rw [blk_cell hx]; rfl
  have q1 := Aside0.mk (delW w tx root ht hM hL k hk hs)
  have HW := Aside0.mk (fun tb => was_form ht.vals tb (L k))
  have HX := Aside0.mk (And.intro hx (And.intro hm ht))
  have HK := Aside0.mk (keyOf_str k hk)
  have hmx : Aside0 (mb ≠ x) := ⟨fun e => by
    obtain ⟨es, cl, h1, -⟩ := hm
    rw [e, hx] at h1
    cases h1⟩
  obtain ⟨o, eo⟩ : ∃ o, valT root (L k) = o := ⟨_, rfl⟩
  rw [eo] at q1 HW
  have HEO := Aside0.mk eo
  rw [eo]
  obtain ⟨had, ehad⟩ : ∃ h, o.isSome = h := ⟨_, rfl⟩
  have hiff : had = true ↔ o ≠ none := by rw [← ehad]; cases o <;> simp
  rw [ehad]
  have HHAD := Aside0.mk ehad
  clear hx hm ht eo ehad hM hL
  unfold ptr at x1 q1 ⊢
  go_enter Tryz.func24, Tryz.ntmps24
  go_wp2_with fail
  go_at_call 25
  refine q1.out.mono ?_
  rintro e w2 ⟨tb', root', rfl, ht2, hv2, hl2, hm2, hlo2, hke2, hfi2, hid2, hb2⟩
  have HLO := Aside0.mk (And.intro hlo2 (And.intro hke2 (And.intro hfi2 hid2)))
  clear hlo2 hke2 hfi2 hid2
  have hwas : ∃ (ox : Int), wasV tb' o = .tuple #[ptr tb', .int .i64 ox, .bool had] := by
    rw [← HHAD.out]
    obtain ⟨ox, oh, eab⟩ := HW.out tb'
    cases o with
    | none => exact ⟨0, rfl⟩
    | some v => exact ⟨ox, by
        have h9 : Value.tuple #[ptr tb', v, .bool true] = .tuple #[ptr tb', .int .i64 ox, .bool oh] := eab
        show Value.tuple #[ptr tb', v, .bool true] = _
        injection h9 with h9
        have h10 := congrArg (fun a => a[1]?) h9
        have h11 : some v = some (.int .i64 ox) := h10
        injection h11 with h11
        rw [h11]
        rfl⟩
  obtain ⟨ox, eab⟩ := hwas
  rw [eab]
  have hx2 := (hb2.block _ (Array.getElem?_eq_some_iff.1 HX.out.1).1).trans HX.out.1
  have hm2' : Tch w2 mb nn D := by
    exact HX.out.2.1.kept (row := none) ⟨hb2.os, hb2.tape, hb2.output, hb2.size, fun i hi _ => hb2.block i hi⟩ (by simp)
  have f1 : w2.frozen? ⟨x, 1, none⟩ = false := blk_frozen hx2 1
  have z1 : w2.cell? ⟨x, 1, none⟩ = some (.pointer (some ⟨tx, 0, none⟩)) := by rw [blk_cell hx2]; rfl
  obtain ⟨W3, eW3⟩ : ∃ W3, w2.setCell ⟨x, 1, none⟩ (ptr tb') = W3 := ⟨_, rfl⟩
  have hfar : ∀ j, j ≠ x → W3.heap[j]? = w2.heap[j]? := fun j hj => by rw [← eW3]; exact Below.heap_setCell _ _ _ j hj
  have hx3 : TxnAt W3 x b tb' mb false := by rw [← eW3]; exact set_atG hx2 1 _
  have hm3 : Tch W3 mb nn D := by rw [← eW3]; exact hm2'.setCell (a := ⟨x, 1, none⟩) hmx.out _
  have hfp : FarP (fun t => t == 117) w2 W3 := fun j cs t fr hj ht => (hfar j (fun e => by
    subst e
    rw [hx2] at hj
    injection hj with e1
    injection e1 with _ e2 _
    rw [← e2] at ht
    cases ht)).trans hj
  have ht3 := hfp.tr rfl rfl rfl rfl ht2
  have ho3 : Only (fun j => j = x) w W3 := by rw [← eW3]; exact (Only.of (p := fun j => j = x) hb2).put x 1 (.inl rfl) _
  have hmk3 : ∀ m ∈ mks root', m ∈ mks root ∨ ∃ c, m = ptr (c + 1) ∧ w.heap.size ≤ c ∧ WatchAt W3 (c + 1) c false := fun m hm => by
    rcases hm2 m hm with h | ⟨c, h1, h2, h3⟩
    · exact .inl h
    · have hlt : x < w.heap.size := (Array.getElem?_eq_some_iff.1 HX.out.1).1
      exact .inr ⟨c, h1, h2, h3.move (hfar _ (by omega)) (hfar _ (by omega))⟩
  obtain ⟨cv, hrun, hat, hwf⟩ := World.ownsMap.lookup_int hm3 (string_keyed Tryz.underlying9) Tryz.underlying115 Tryz.underlying3 (by kernel_rfl) HK.out
  have x2 : W3.cell? ⟨x, 2, none⟩ = some (.map (some mb)) := by rw [blk_cell hx3]; rfl
  have HB := Aside0.mk (And.intro hiff (And.intro hv2 hl2))
  have H3 := Aside0.mk (And.intro hx3 (And.intro hm3 (And.intro ht3 (And.intro ho3 hmk3))))
  have HE3 := Aside0.mk eW3
  clear hb2 hx2 hm2' eab eW3 hfar hx3 hm3 hfp ht3 ho3 hmk3 ht2 hv2 hl2 hm2 q1 HW hat hiff x1 x3 HHAD
  unfold ptr at HE3 ⊢
  go_upto_region 6 with fail
  rw [HE3.out]
  clear f1 z1
  cases had with
  | false =>
    go_wp2_with fail
    go_ret3
    refine ⟨ox, tb', root', D, rfl, H3.out.1, H3.out.2.1.mono (Nat.le_succ _), .inl ⟨rfl, ?_⟩, H3.out.2.2.1, HB.out.2.1, HB.out.2.2, H3.out.2.2.2.2, HLO.out.1, HLO.out.2.1, HLO.out.2.2.1, HLO.out.2.2.2, H3.out.2.2.2.1.imp (fun k _ h => .inr h)⟩
    by_cases h9 : o = none
    · exact h9
    · exact absurd (HB.out.1.2 h9) (by simp)
  | true =>
    go_wp2_with (at_mapUpdate; refine wpList_mapUpdate_own _ rfl _ _ _ 115 rfl 9 3 (string_keyed Tryz.underlying9) Tryz.underlying115 (plainElem Tryz.prog 3) mb nn D rfl H3.out.2.1 (by unfold maxLen; omega) _ _ (.string k.data.toList) rfl rfl HK.out (.lit (.int .i64 (wrap64 (cv + 1)))) [] (plainElem_int Tryz.underlying3 (RowKit.wrap64_wf _)) ?_)
    intro w4 hm4 hg4
    have ho4 := only_grown hg4
    have HM4 := Aside0.mk (And.intro hm4 ho4)
    clear hm4 hg4 ho4
    go_wp2_with fail
    go_ret3
    have hmap : ∀ (j : Nat) (cs : Array Value) (t : TypeId) (fr : Nat × Nat), W3.heap[j]? = some (.cells cs t fr) → j ≠ mb := fun j cs t fr hj e => by
      obtain ⟨es, cl, h1, -⟩ := H3.out.2.1
      rw [e, h1] at hj
      cases hj
    have hfp4 : FarP (fun _ => false) W3 w4 := fun j cs t fr hj _ => HM4.out.2.at hj (hmap j cs t fr hj)
    refine ⟨ox, tb', root', _, rfl, HM4.out.2.at H3.out.1 (fun e => hmx.out e.symm), HM4.out.1, .inr ⟨HB.out.1.1 (by first | rfl | trivial), _, rfl⟩, hfp4.tr rfl rfl rfl rfl H3.out.2.2.1, HB.out.2.1, HB.out.2.2, fun m hm => ?_, HLO.out.1, HLO.out.2.1, HLO.out.2.2.1, HLO.out.2.2.2, (H3.out.2.2.2.1.trans HM4.out.2).imp (fun k _ h => h.symm)⟩
    rcases H3.out.2.2.2.2 m hm with h | ⟨c, h1, h2, h3⟩
    · exact .inl h
    · refine .inr ⟨c, h1, h2, ⟨hfp4 _ _ _ _ h3.obj rfl, HM4.out.2.far c (Array.getElem?_eq_some_iff.1 h3.ch).1 (fun e => ?_) |>.trans h3.ch⟩⟩
      obtain ⟨es, cl, h9, -⟩ := H3.out.2.1
      have h10 := h3.ch
      rw [e, h9] at h10
      cases h10
end Go.Proofs.YtjhgknagmiekeaaGreat.G
set_option linter.unusedVariables false
set_option linter.unusedSimpArgs false
namespace Go.Proofs.YtjhgknagmiekeaaGreat.G
open Go.RowKit Go.Lib Go.Proofs Go.Conc Go.Maps
open Go.Proofs.YtjhgknagmiekeaaGreatW.PrintWords hiding Kept
open Go.Proofs.YtjhgknagmiekeaaGreatW.PrintLast
open Go.Proofs.YtjhgknagmiekeaaGreat.T (Nd NdAt ptr Tr L All valT wasV Lf Strs delN)
theorem mem_insertD {H : Type} (x y : Lit × DataW H) : ∀ l, y ∈ DataW.insert x l ↔ y = x ∨ y ∈ l
  | [] => by simp [DataW.insert]
  | z :: r => by
    rw [DataW.insert]
    split
    · simp
    · rw [List.mem_cons, mem_insertD x y r, List.mem_cons]
      constructor
      · rintro (h | h | h)
        · exact .inr (.inl h)
        · exact .inl h
        · exact .inr (.inr h)
      · rintro (h | h | h)
        · exact .inr (.inl h)
        · exact .inl h
        · exact .inr (.inr h)
theorem keys_put {H : Type} (es : List (Lit × DataW H)) (hk : ∀ p ∈ es, ∃ x, p.1 = .string x) (s : List UInt8) (d : DataW H) (t : List UInt8) : t ∈ strKeys ((DataW.map es).put (.string s) d) ↔ t = s ∨ t ∈ strKeys (DataW.map es) := by
  rw [DataW.put_eq]
  show t ∈ (ChangeMaps.putKey _ _ _).map _ ↔ _ ∨ t ∈ es.map _
  unfold ChangeMaps.putKey
  constructor
  · intro h
    obtain ⟨p, hp, e⟩ := List.mem_map.1 h
    rcases (mem_insertD _ _ _).1 hp with h1 | h1
    · left; rw [← e, h1]; rfl
    · right; exact List.mem_map.2 ⟨p, (List.mem_filter.1 h1).1, e⟩
  · rintro (h | h)
    · exact List.mem_map.2 ⟨_, (mem_insertD _ _ _).2 (.inl rfl), h.symm⟩
    · by_cases hts : t = s
      · exact List.mem_map.2 ⟨_, (mem_insertD _ _ _).2 (.inl rfl), hts.symm⟩
      · obtain ⟨p, hp, e⟩ := List.mem_map.1 h
        refine List.mem_map.2 ⟨p, (mem_insertD _ _ _).2 (.inr (List.mem_filter.2 ⟨hp, ?_⟩)), e⟩
        obtain ⟨x, hx⟩ := hk p hp
        rw [hx] at e
        have : x ≠ s := fun e2 => hts (by rw [← e, ← e2]; rfl)
        unfold ChangeMaps.notKey
        rw [hx]
        simp [Lit.sameKey, this]
theorem Tch.keys {w : World} {mb n : Nat} {D : DataW Unit} (h : Tch w mb n D) (s t : List UInt8) (d : DataW Unit) : t ∈ strKeys (D.put (.string s) d) ↔ t = s ∨ t ∈ strKeys D := by
  obtain ⟨es, rfl, hk⟩ := World.ownsMap.keysOf h
  exact keys_put es (fun p hp => by
    obtain ⟨v, hv⟩ := hk p hp
    obtain ⟨x, -, hx, -⟩ := Maps.keyOf_str Tryz.underlying9 hv
    exact ⟨x, hx⟩) s d t
structure Chg where
  drop : Bool
  key : ByteArray
  val : Int
def ChAt (w : World) (A : Option Addr) (cs : List Chg) : Prop := ∀ i (h : i < cs.length), ∃ ad, A = some ad ∧ w.cell? (ad.add (i * 3)) = some (.bool cs[i].drop) ∧ w.cell? (ad.add (i * 3 + 1)) = some (.string cs[i].key) ∧ w.cell? (ad.add (i * 3 + 2)) = some (.int .i64 cs[i].val)
theorem ChAt.keep {w w' : World} {A : Option Addr} {l : List Chg} (h : ChAt w A l) (k : T.Kept w w') : ChAt w' A l := fun i hi => by
  obtain ⟨ad, e, h0, h1, h2⟩ := h i hi
  exact ⟨ad, e, k.cell h0, k.cell h1, k.cell h2⟩
def stepV (f : List UInt8 → Option Value) (c : Chg) : List UInt8 → Option Value := fun r => if r = L c.key then (if c.drop then none else some (.int .i64 c.val)) else f r
def runV (f : List UInt8 → Option Value) (cs : List Chg) : List UInt8 → Option Value := cs.foldl stepV f
def tchOne (f : List UInt8 → Option Value) (c : Chg) : Bool := !c.drop || (f (L c.key)).isSome
def tchd : (List UInt8 → Option Value) → List Chg → Bool
  | _, [] => false
  | f, c :: r => tchOne f c || tchd (stepV f c) r
theorem tchd_snoc : ∀ (l : List Chg) (f : List UInt8 → Option Value) (c : Chg), tchd f (l ++ [c]) = (tchd f l || tchOne (runV f l) c)
  | [], f, c => by simp [tchd, runV]
  | x :: r, f, c => by
    show (tchOne f x || tchd (stepV f x) (r ++ [c])) = _
    rw [tchd_snoc r]
    show _ = ((tchOne f x || tchd (stepV f x) r) || tchOne (runV (stepV f x) r) c)
    rw [Bool.or_assoc]
theorem runV_snoc (l : List Chg) (f : List UInt8 → Option Value) (c : Chg) : runV f (l ++ [c]) = stepV (runV f l) c := by
  unfold runV
  rw [List.foldl_append]
  rfl
theorem step_idle {f : List UInt8 → Option Value} {c : Chg} (h : tchOne f c = false) : stepV f c = f := by
  unfold tchOne at h
  rw [Bool.or_eq_false_iff] at h
  funext r
  unfold stepV
  split
  · rename_i e
    have h1 : c.drop = true := by cases h2 : c.drop with | true => rfl | false => rw [h2] at h; cases h.1
    rw [h1, if_pos rfl]
    have h2 := h.2
    rw [← e] at h2
    cases h3 : f r with
    | none => rfl
    | some v => rw [h3] at h2; cases h2
  · rfl
theorem run_idle : ∀ (l : List Chg) (f : List UInt8 → Option Value), tchd f l = false → runV f l = f
  | [], f, _ => rfl
  | c :: r, f, h => by
    have h1 : (tchOne f c || tchd (stepV f c) r) = false := h
    rw [Bool.or_eq_false_iff] at h1
    show runV (stepV f c) r = f
    rw [run_idle r _ h1.2, step_idle h1.1]
def nOf (com : Bool) (f : List UInt8 → Option Value) (cs : List Chg) (n : Int) : Int := if com && tchd f cs then n + 1 else n
def vOf (com : Bool) (f : List UInt8 → Option Value) (cs : List Chg) : List UInt8 → Option Value := if com then runV f cs else f
theorem txn_far {w w' : World} {x b tx mb nn : Nat} {D : DataW Unit} {over : Bool} (hx : TxnAt w x b tx mb over) (hm : Tch w mb nn D) (h : Only (fun j => j = mb ∨ j = x) w w') : FarP (fun t => t == 117) w w' := fun j cs t fr hj ht => h.at hj (fun e => by
  rcases e with e | e
  · obtain ⟨es, cl, h1, -⟩ := hm
    rw [e, h1] at hj
    cases hj
  · rw [e, hx] at hj
    injection hj with e1
    injection e1 with _ e2 _
    rw [← e2] at ht
    cases ht)
theorem txn_watch {w w' : World} {x b tx mb nn : Nat} {D : DataW Unit} {over : Bool} (hx : TxnAt w x b tx mb over) (hm : Tch w mb nn D) (h : Only (fun j => j = mb ∨ j = x) w w') {c : Nat} {d : Bool} (hw : WatchAt w (c + 1) c d) : WatchAt w' (c + 1) c d :=
  ⟨txn_far hx hm h _ _ _ _ hw.obj rfl, h.at hw.ch (fun e => by
    have h2 := hw.ch
    rcases e with e | e
    · obtain ⟨es, cl, h1, -⟩ := hm
      rw [e, h1] at h2
      cases h2
    · rw [e, hx] at h2
      cases h2)⟩
theorem Mks.belowG {w w' : World} {n : Nd} (hb : Below w.heap.size w w') (h : Mks w n) : Mks w' n := fun m hm => (h m hm).imp (fun c d h9 => ⟨d, h9.move (hb.block _ (Array.getElem?_eq_some_iff.1 h9.obj).1) (hb.block _ (Array.getElem?_eq_some_iff.1 h9.ch).1)⟩)
structure Opened (w : World) (b v tb x tx mb nn : Nat) (n : Int) (root cur : Nd) (D : DataW Unit) : Prop where
  base : BaseAt w b v tb n true
  txn : TxnAt w x b tx mb false
  tch : Tch w mb nn D
  tr : Tr w tb root
  own : Tr w tx cur
  mkd : Mks w root
  mkc : Mks w cur
theorem Opened.below {w w' : World} {b v tb x tx mb nn : Nat} {n : Int} {root cur : Nd} {D : DataW Unit} (h : Opened w b v tb x tx mb nn n root cur D) (hb : Below w.heap.size w w') : Opened w' b v tb x tx mb nn n root cur D :=
  ⟨h.base.move (hb.block _ (Array.getElem?_eq_some_iff.1 h.base.base).1) (hb.block _ (Array.getElem?_eq_some_iff.1 h.base.ver).1), (hb.block _ (Array.getElem?_eq_some_iff.1 h.txn).1).trans h.txn, h.tch.kept (row := none) ⟨hb.os, hb.tape, hb.output, hb.size, fun i hi _ => hb.block i hi⟩ (by simp), h.tr.keep (T.Kept.of hb), h.own.keep (T.Kept.of hb), h.mkd.belowG hb, h.mkc.belowG hb⟩
theorem Opened.step {w w' : World} {b v tb x tx mb nn tx' nn' : Nat} {n : Int} {root cur cur' : Nd} {D D' : DataW Unit} (h : Opened w b v tb x tx mb nn n root cur D) (ho : Only (fun j => j = mb ∨ j = x) w w') (hx : TxnAt w' x b tx' mb false) (hm : Tch w' mb nn' D') (ht : Tr w' tx' cur') (hk : ∀ m ∈ mks cur', m ∈ mks cur ∨ ∃ c, m = ptr (c + 1) ∧ w.heap.size ≤ c ∧ WatchAt w' (c + 1) c false) : Opened w' b v tb x tx' mb nn' n root cur' D' := by
  have hf := txn_far h.txn h.tch ho
  have hb : BaseAt w' b v tb n true := ⟨hf _ _ _ _ h.base.base rfl, hf _ _ _ _ h.base.ver rfl⟩
  have hw : ∀ c d, WatchAt w (c + 1) c d → ∃ d', WatchAt w' (c + 1) c d' := fun c d h9 => ⟨d, txn_watch h.txn h.tch ho h9⟩
  refine ⟨hb, hx, hm, hf.tr rfl rfl rfl rfl h.tr, ht, fun m hm => (h.mkd m hm).imp hw, fun m hm => ?_⟩
  rcases hk m hm with h9 | ⟨c, h1, h2, h3⟩
  · exact (h.mkc m h9).imp hw
  · exact ⟨c, false, h1, h3⟩
structure After (w w' : World) (b : Nat) (root root' : Nd) (n' : Int) : Prop where
  base : ∃ v' tb', BaseAt w' b v' tb' n' false ∧ Tr w' tb' root'
  mkd : Mks w' root'
  far : FarP tAll w w'
  watch : ∀ c d, WatchAt w (c + 1) c d → ∃ d', WatchAt w' (c + 1) c d'
  below : ∀ B, B ≤ w.heap.size → B ≤ b → (∀ m ∈ mks root, B ≤ chOf m) → Below B w w' ∧ ∀ m ∈ mks root', B ≤ chOf m
  size : w.heap.size ≤ w'.heap.size
  defr : FarD w w'
end Go.Proofs.YtjhgknagmiekeaaGreat.G
set_option linter.unusedVariables false
set_option linter.unusedSimpArgs false
namespace Go.Proofs.YtjhgknagmiekeaaGreat.G
open Go.RowKit Go.Lib Go.Proofs Go.Conc Go.Maps
open Go.Proofs.YtjhgknagmiekeaaGreatW.PrintWords hiding Kept
open Go.Proofs.YtjhgknagmiekeaaGreatW.PrintLast
open Go.Proofs.YtjhgknagmiekeaaGreat.T (Nd NdAt ptr Tr L All valT wasV Lf Strs delN)
attribute [local go_sem] Oper.semAt_some
set_option maxRecDepth 100000 in
set_option maxHeartbeats 8000000 in
theorem doneC (w : World) (b v tb : Nat) (n : Int) (root : Nd) (hb : BaseAt w b v tb n false) (ht : Tr w tb root) (hM : Mks w root) (A : Option Addr) (c : Nat) (cs : List Chg)
    (hR : ∀ W, FarP tAll w W → (∀ B, B ≤ w.heap.size → B ≤ b → Below B w W) → ChAt W A cs) (hk : ∀ c ∈ cs, c.key.size < 4000000000000) (hlen : cs.length < 1000000000) (hs : (All root).length + cs.length < 3999999999999) (hn0 : 0 ≤ n) (hn1 : n < 1000000000000) (com : Bool) :
    Calls Tryz.prog 10 #[ptr b, .slice A cs.length c, .bool com] w fun e w' => e = .returned (.bool true) ∧ ∃ root' n', After w w' b root root' n' ∧ (All root').length ≤ (All root).length + cs.length ∧ (∀ r, valT root' r = vOf com (valT root) cs r) ∧ n' = nOf com (valT root) cs n := by
  have q1 := Aside0.mk (beginFree w b v tb n hb)
  have hcb : Aside0 (CellsOf w tXB (fun k => k = b)) := ⟨fun k e => by rw [e]; exact ⟨_, _, _, hb.base, rfl⟩⟩
  have HH := Aside0.mk (And.intro hb (And.intro ht hM))
  have HR := Aside0.mk hR
  have HK := Aside0.mk hk
  have hbl : b < w.heap.size := (Array.getElem?_eq_some_iff.1 hb.base).1
  have HS := Aside0.mk (And.intro hs (And.intro hn0 (And.intro hn1 hbl)))
  obtain ⟨N, eN⟩ : ∃ N, cs.length = N := ⟨_, rfl⟩
  have HN := Aside0.mk eN
  have hN : N < 1000000000 := by omega
  rw [eN]
  clear hb ht hM hR hk hlen hs hn0 hn1 hbl eN
  unfold ptr at q1 ⊢
  go_enter Tryz.func10, Tryz.ntmps10
  go_wp2_with fail
  go_at_call 18
  refine q1.out.mono ?_
  rintro e w2 ⟨x, mb, rfl, hb2, hx2, hm2, hxs, hms, hmx, ho2⟩
  have hf2 := ho2.farP hcb.out
  have ht2 : Tr w2 tb root := hf2.tr rfl rfl rfl rfl HH.out.2.1
  have hM2 : Mks w2 root := fun m hm => (HH.out.2.2 m hm).imp (fun c d h9 => ⟨d, ho2.watch hcb.out rfl h9⟩)
  have HO2 : Aside0 (Opened w2 b v tb x tb mb 0 n root root (.map [])) := ⟨⟨hb2, hx2, hm2, ht2, ht2, hM2, hM2⟩⟩
  have HX := Aside0.mk (And.intro hxs hms)
  have HB2 := Aside0.mk ho2
  clear hb2 hx2 hm2 hxs hms hmx ho2 hf2 ht2 hM2 q1
  go_wp2_with fail
  go_loopg [24] (N + 1) (fun kq v24 W => ∃ (i tx : Nat) (cur : Nd) (D : DataW Unit), v24 = .int .i64 (i : Int) ∧ Aside0 (i + kq = N + 1 ∧ i ≤ N) ∧ Aside0 (Opened W b v tb x tx mb i n root cur D) ∧ Aside0 ((∀ r, valT cur r = runV (valT root) (cs.take i) r) ∧ (All cur).length ≤ (All root).length + i ∧ (∀ s ∈ strKeys D, ∃ c ∈ cs, s = L c.key) ∧ (strKeys D = [] ↔ tchd (valT root) (cs.take i) = false) ∧ (∀ m ∈ mks cur, m ∈ mks root ∨ w.heap.size ≤ chOf m)) ∧ Aside0 (Only (fun k => k = b) w W))
  case atStart => exact ⟨0, tb, root, _, rfl, ⟨by omega⟩, HO2, ⟨fun r => rfl, Nat.le_refl _, fun s hs => (by cases hs), ⟨fun _ => rfl, fun _ => rfl⟩, fun m hm => .inl hm⟩, HB2⟩
  case round =>
    obtain ⟨i, tx, cur, D, rfl, HI, HO, HV, HW⟩ := hrel
    by_cases hi : i < N
    · have hi' : i < cs.length := by rw [HN.out]; exact hi
      have hbw : ∀ B, B ≤ w.heap.size → B ≤ b → Below B w wr := fun B h1 h2 => HW.out.below B h1 (fun k _ e => by rw [e]; exact h2)
      obtain ⟨ad, ea, k0, k1, k2⟩ := HR.out wr ((HW.out.farP hcb.out).mono (fun t h => by unfold tAll at h; unfold tXB; rw [Bool.or_eq_false_iff] at h; exact h.1)) hbw i hi'
      obtain ⟨o, eo⟩ : ∃ o, cs[i] = o := ⟨_, rfl⟩
      have hmem : o ∈ cs := by rw [← eo]; exact List.getElem_mem _
      have hks : Aside0 (o.key.size < 4000000000000) := ⟨HK.out o hmem⟩
      have htk : cs.take (i + 1) = cs.take i ++ [o] := by rw [List.take_add_one, List.getElem?_eq_getElem hi', eo]; rfl
      have HT := Aside0.mk (And.intro htk hmem)
      rw [eo] at k0 k1 k2
      clear eo hi' hbw htk hmem
      obtain ⟨dr, key, val⟩ := o
      dsimp only at k0 k1 k2 hks
      have k1' : wr.cell? ⟨(ad.add (i * 3)).block, (ad.add (i * 3)).off + 1, none⟩ = some (.string key) := by rw [← add_field _ _ 1 (by omega)]; exact k1
      have k2' : wr.cell? ⟨(ad.add (i * 3)).block, (ad.add (i * 3)).off + 2, none⟩ = some (.int .i64 val) := by rw [← add_field _ _ 2 (by omega)]; exact k2
      subst ea
      clear k1 k2
      have hin : (i : Int) < (N : Int) := by omega
      go_upto_region 7 with fail
      obtain ⟨G, eG⟩ : ∃ G, wr.heap.size = G := ⟨_, rfl⟩
      obtain ⟨W4, eW4⟩ : ∃ W4, wr.alloc (Obj.cells #[.bool dr, .string key, .int .i64 val] 30) = W4 := ⟨_, rfl⟩
      have HW4 : Aside0 (W4.heap[G]? = some (.cells #[.bool dr, .string key, .int .i64 val] 30 (0, 0)) ∧ Below wr.heap.size wr W4) := ⟨by rw [← eW4, ← eG]; exact World.alloc_heap_new wr _, by rw [← eW4]; exact (Below.refl _ wr).alloc (Nat.le_refl _) _⟩
      rw [eW4, eG]
      have hb4 := HW4.out.1
      have b0 : W4.cell? ⟨G, 0, none⟩ = some (.bool dr) := by rw [blk_cell hb4]; rfl
      have b1 : W4.cell? ⟨G, 1, none⟩ = some (.string key) := by rw [blk_cell hb4]; rfl
      have b2 : W4.cell? ⟨G, 2, none⟩ = some (.int .i64 val) := by rw [blk_cell hb4]; rfl
      have HO4 := Aside0.mk (HO.out.below HW4.out.2)
      have HW5 : Aside0 (Only (fun k => k = b) w W4) := ⟨(HW.out.trans (Only.of (p := fun _ => False) HW4.out.2)).imp (fun k _ h => h.elim id (fun e => e.elim))⟩
      have hsz : (All cur).length < 3999999999999 := by have := HV.out.2.1; have := HS.out.1; have := HN.out; omega
      have hnd : i < 1000000000000 := by omega
      have q2 := Aside0.mk (fun h : dr = true => txnDrop W4 x b tx mb i D cur HO4.out.txn HO4.out.tch hnd HO4.out.own key hks.out hsz)
      have q3 := Aside0.mk (fun h : dr = false => txnSet W4 x b tx mb i D cur HO4.out.txn HO4.out.tch hnd HO4.out.own key val hks.out hsz)
      clear hb4 eW4 eG k0 k1' k2' hin hsz hnd
      unfold ptr at q2 q3
      cases dr with
      | true =>
        go_wp2_with fail
        go_at_call 24
        refine (q2.out (by first | rfl | trivial)).mono ?_
        rintro e w5 ⟨old, tx', cur', D', rfl, hx5, hm5, hD5, ht5, hv5, hl5, hk5, ho5⟩
        have HO5 := Aside0.mk (HO4.out.step ho5 hx5 hm5 ht5 hk5)
        have hmx : w.heap.size ≤ mb ∧ w.heap.size ≤ x := ⟨HX.out.2, HX.out.1⟩
        have HW6 : Aside0 (Only (fun k => k = b) w w5) := ⟨(HW5.out.trans ho5).imp (fun k hk h => by rcases h with h | h | h; exact h; exact absurd hk (by omega); exact absurd hk (by omega))⟩
        have HV5 : Aside0 ((∀ r, valT cur' r = runV (valT root) (cs.take (i + 1)) r) ∧ (All cur').length ≤ (All root).length + (i + 1) ∧ (∀ s ∈ strKeys D', ∃ c ∈ cs, s = L c.key) ∧ (strKeys D' = [] ↔ tchd (valT root) (cs.take (i + 1)) = false) ∧ (∀ m ∈ mks cur', m ∈ mks root ∨ w.heap.size ≤ chOf m)) := by
          have hf : valT cur = runV (valT root) (cs.take i) := funext HV.out.1
          have ht1 : tchd (valT root) (cs.take (i + 1)) = (tchd (valT root) (cs.take i) || (valT cur (L key)).isSome) := by rw [HT.out.1, tchd_snoc, ← hf]; rfl
          refine ⟨fun r => ?_, by have := HV.out.2.1; omega, fun s hs => ?_, ?_, fun m hm => ?_⟩
          · rw [HT.out.1, runV_snoc, ← hf, hv5]; rfl
          · rcases hD5 with ⟨e, -⟩ | ⟨-, cc, e⟩
            · rw [e] at hs; exact HV.out.2.2.1 s hs
            · rw [e] at hs
              rcases (HO4.out.tch.keys _ _ _).1 hs with h | h
              · exact ⟨_, HT.out.2, h⟩
              · exact HV.out.2.2.1 s h
          · rw [ht1]
            rcases hD5 with ⟨e, hno⟩ | ⟨hyes, cc, e⟩
            · rw [e, hno]; simpa using HV.out.2.2.2.1
            · have h1 : (valT cur (L key)).isSome = true := by cases h : valT cur (L key) with | none => exact absurd h hyes | some _ => rfl
              rw [h1, Bool.or_true]
              refine ⟨fun h => ?_, fun h => by cases h⟩
              have h2 := (HO4.out.tch.keys key.data.toList key.data.toList (.lit (.int .i64 cc))).2 (.inl rfl)
              rw [← e, h] at h2
              cases h2
          · rcases hk5 m hm with h | ⟨c, h1, h2, h3⟩
            · exact HV.out.2.2.2.2 m h
            · right; rw [h1]; exact Nat.le_trans HW5.out.size h2
        clear hx5 hm5 hD5 ht5 hv5 hl5 hk5 ho5 b0 b1 b2 q2 q3 hmx
        go_wp2_with fail
        go_roundg (N - i)
        case measure => have := HI.out; omega
        case rel => exact ⟨i + 1, tx', cur', D', by simp, ⟨by have := HI.out; omega⟩, HO5, HV5, HW6⟩
      | false =>
        go_wp2_with fail
        go_at_call 26
        refine (q3.out (by first | rfl | trivial)).mono ?_
        rintro e w5 ⟨old, had, tx', cur', cc, rfl, hx5, hm5, ht5, hv5, hl5, hk5, ho5⟩
        have HO5 := Aside0.mk (HO4.out.step ho5 hx5 hm5 ht5 hk5)
        have hmx : w.heap.size ≤ mb ∧ w.heap.size ≤ x := ⟨HX.out.2, HX.out.1⟩
        have HW6 : Aside0 (Only (fun k => k = b) w w5) := ⟨(HW5.out.trans ho5).imp (fun k hk h => by rcases h with h | h | h; exact h; exact absurd hk (by omega); exact absurd hk (by omega))⟩
        have HV5 : Aside0 ((∀ r, valT cur' r = runV (valT root) (cs.take (i + 1)) r) ∧ (All cur').length ≤ (All root).length + (i + 1) ∧ (∀ s ∈ strKeys (D.put (.string key.data.toList) (.lit (.int .i64 cc))), ∃ c ∈ cs, s = L c.key) ∧ (strKeys (D.put (.string key.data.toList) (.lit (.int .i64 cc))) = [] ↔ tchd (valT root) (cs.take (i + 1)) = false) ∧ (∀ m ∈ mks cur', m ∈ mks root ∨ w.heap.size ≤ chOf m)) := by
          have hf : valT cur = runV (valT root) (cs.take i) := funext HV.out.1
          have ht1 : tchd (valT root) (cs.take (i + 1)) = true := by rw [HT.out.1, tchd_snoc]; show (_ || (true || _)) = true; rw [Bool.true_or, Bool.or_true]
          refine ⟨fun r => ?_, by have := HV.out.2.1; omega, fun s hs => ?_, ?_, fun m hm => ?_⟩
          · rw [HT.out.1, runV_snoc, ← hf, hv5]; rfl
          · rcases (HO4.out.tch.keys _ _ _).1 hs with h | h
            · exact ⟨_, HT.out.2, h⟩
            · exact HV.out.2.2.1 s h
          · rw [ht1]
            refine ⟨fun h => ?_, fun h => by cases h⟩
            have h2 := (HO4.out.tch.keys key.data.toList key.data.toList (.lit (.int .i64 cc))).2 (.inl rfl)
            rw [h] at h2
            cases h2
          · rcases hk5 m hm with h | ⟨c, h1, h2, h3⟩
            · exact HV.out.2.2.2.2 m h
            · right; rw [h1]; exact Nat.le_trans HW5.out.size h2
        clear hx5 hm5 ht5 hv5 hl5 hk5 ho5 b0 b1 b2 q2 q3 hmx
        go_wp2_with fail
        go_roundg (N - i)
        case measure => have := HI.out; omega
        case rel => exact ⟨i + 1, tx', cur', _, by simp, ⟨by have := HI.out; omega⟩, HO5, HV5, HW6⟩
    · have hin : i = N := by have := HI.out; omega
      subst hin
      have htake : cs.take i = cs := by rw [← HN.out]; exact List.take_length
      have HT := Aside0.mk htake
      clear htake
      have hfw := (HW.out.farP hcb.out).mono (q := tAll) (fun t h => by unfold tAll at h; unfold tXB; rw [Bool.or_eq_false_iff] at h; exact h.1)
      have hww : ∀ c d, WatchAt w (c + 1) c d → WatchAt wr (c + 1) c d := fun c d h9 => HW.out.watch hcb.out rfl h9
      have HFW := Aside0.mk (And.intro hfw (And.intro hww (HW.out.farD hcb.out)))
      have hbel : ∀ B, B ≤ w.heap.size → B ≤ b → Below B w wr := fun B h1 h2 => HW.out.below B h1 (fun k _ e => by rw [e]; exact h2)
      have HBEL := Aside0.mk hbel
      have hnd : i < 1000000000000 := by omega
      clear hfw hww hbel
      cases com with
      | false =>
        have q4 := Aside0.mk (txnAbort wr x b v tb tx mb n HO.out.base HO.out.txn)
        unfold ptr at q4
        go_wp2_with fail
        go_at_call 29
        refine q4.out.mono ?_
        rintro e w5 ⟨rfl, hb5, ho5⟩
        have hcx : CellsOf wr tXB (fun k => k = x ∨ k = b) := fun k e => by
          rcases e with e | e
          · rw [e]; exact ⟨_, _, _, HO.out.txn, rfl⟩
          · rw [e]; exact ⟨_, _, _, HO.out.base.base, rfl⟩
        have hf5 := ho5.farP hcx
        have H5 : Aside0 (After w w5 b root root n) := by
          refine ⟨⟨v, tb, hb5, hf5.tr rfl rfl rfl rfl HO.out.tr⟩, fun m hm => (HO.out.mkd m hm).imp (fun c d h9 => ⟨d, ho5.watch hcx rfl h9⟩), HFW.out.1.trans (hf5.mono (fun t h => by unfold tAll at h; unfold tXB; rw [Bool.or_eq_false_iff] at h; exact h.1)), fun c d h9 => ⟨d, ho5.watch hcx rfl (HFW.out.2.1 c d h9)⟩, fun B h1 h2 h3 => ⟨(HBEL.out B h1 h2).trans (ho5.below B (Nat.le_trans h1 HW.out.size) (fun k _ e => by
            rcases e with e | e
            · rw [e]; exact Nat.le_trans h1 HX.out.1
            · rw [e]; exact h2)), h3⟩, Nat.le_trans HW.out.size ho5.size, HFW.out.2.2.trans (ho5.farD hcx)⟩
        clear hb5 ho5 hcx hf5
        go_wp2_with fail
        go_ret
        refine ⟨rfl, root, n, H5.out, by omega, fun r => rfl, rfl⟩
      | true =>
        obtain ⟨tt, ett⟩ : ∃ tt, tchd (valT root) cs = tt := ⟨_, rfl⟩
        have HTT := Aside0.mk ett
        clear ett
        cases tt with
        | false =>
          have hke : strKeys D = [] := HV.out.2.2.2.1.2 (by rw [HT.out]; exact HTT.out)
          have q4 := Aside0.mk (txnCommit0 wr x b v tb tx mb i n D HO.out.base HO.out.txn HO.out.tch hnd hke)
          clear hke
          unfold ptr at q4
          go_wp2_with fail
          go_at_call 30
          refine q4.out.mono ?_
          rintro e w5 ⟨rfl, hb5, ho5⟩
          have hcx : CellsOf wr tXB (fun k => k = x ∨ k = b) := fun k e => by
            rcases e with e | e
            · rw [e]; exact ⟨_, _, _, HO.out.txn, rfl⟩
            · rw [e]; exact ⟨_, _, _, HO.out.base.base, rfl⟩
          have hf5 := ho5.farP hcx
          have H5 : Aside0 (After w w5 b root root n) := by
            refine ⟨⟨v, tb, hb5, hf5.tr rfl rfl rfl rfl HO.out.tr⟩, fun m hm => (HO.out.mkd m hm).imp (fun c d h9 => ⟨d, ho5.watch hcx rfl h9⟩), HFW.out.1.trans (hf5.mono (fun t h => by unfold tAll at h; unfold tXB; rw [Bool.or_eq_false_iff] at h; exact h.1)), fun c d h9 => ⟨d, ho5.watch hcx rfl (HFW.out.2.1 c d h9)⟩, fun B h1 h2 h3 => ⟨(HBEL.out B h1 h2).trans (ho5.below B (Nat.le_trans h1 HW.out.size) (fun k _ e => by
              rcases e with e | e
              · rw [e]; exact Nat.le_trans h1 HX.out.1
              · rw [e]; exact h2)), h3⟩, Nat.le_trans HW.out.size ho5.size, HFW.out.2.2.trans (ho5.farD hcx)⟩
          clear hb5 ho5 hcx hf5
          go_wp2_with fail
          go_ret
          refine ⟨rfl, root, n, H5.out, by omega, fun r => ?_, by unfold nOf; rw [HTT.out]; rfl⟩
          show _ = runV (valT root) cs r
          rw [run_idle _ _ HTT.out]
        | true =>
          have hkne : strKeys D ≠ [] := fun h => by
            have h9 := HV.out.2.2.2.1.1 h
            rw [HT.out, HTT.out] at h9
            cases h9
          have hkd : ∀ s ∈ strKeys D, s.length < 4000000000000 := fun s hs => by
            obtain ⟨c, hc, e⟩ := HV.out.2.2.1 s hs
            rw [e, T.L_len]
            exact HK.out c hc
          have q4 := Aside0.mk (txnCommit wr x b v tb tx mb i n D root HO.out.base HO.out.txn HO.out.tch hnd HO.out.tr HO.out.mkd hkd hkne HS.out.2.1 HS.out.2.2.1)
          clear hkne hkd
          unfold ptr at q4
          go_wp2_with fail
          go_at_call 30
          refine q4.out.mono ?_
          rintro e w5 ⟨cnt, rfl, hD⟩
          obtain ⟨v5, hb5⟩ := hD.base
          have H5 : Aside0 (After w w5 b root cur (n + 1)) := by
            refine ⟨⟨v5, tx, hb5, hD.far.tr rfl rfl rfl rfl HO.out.own⟩, fun m hm => (HO.out.mkc m hm).imp hD.watch, HFW.out.1.trans hD.far, fun c d h9 => hD.watch c d (HFW.out.2.1 c d h9), fun B h1 h2 h3 => ⟨(HBEL.out B h1 h2).trans (hD.below B (Nat.le_trans h1 HW.out.size) (Nat.le_trans h1 HX.out.1) h2 h3), fun m hm => ?_⟩, Nat.le_trans HW.out.size hD.size, HFW.out.2.2.trans hD.defr⟩
            rcases HV.out.2.2.2.2 m hm with h | h
            · exact h3 m h
            · exact Nat.le_trans h1 h
          clear hb5 hD
          go_wp2_with fail
          go_ret
          refine ⟨rfl, cur, n + 1, H5.out, HV.out.2.1, fun r => ?_, by unfold nOf; rw [HTT.out]; rfl⟩
          rw [HV.out.1 r, HT.out]
          rfl
end Go.Proofs.YtjhgknagmiekeaaGreat.G
set_option linter.unusedVariables false
set_option linter.unusedSimpArgs false
namespace Go.Proofs.YtjhgknagmiekeaaGreat.G
open Go.RowKit Go.Lib Go.Proofs Go.Conc Go.Maps
open Go.Proofs.YtjhgknagmiekeaaGreatW.PrintWords hiding Kept
open Go.Proofs.YtjhgknagmiekeaaGreatW.PrintLast
open Go.Proofs.YtjhgknagmiekeaaGreat.T (Nd NdAt ptr Tr L All valT wasV Lf Strs delN nodeT findT)
attribute [local go_sem] Oper.semAt_some
structure Trk (root cur : Nd) (ks : List (List UInt8)) : Prop where
  keep : ∀ r X, nodeT root r = some X → (∀ t ∈ ks, ¬ r <+: t) → ∃ X', nodeT cur r = some X' ∧ X'.mark = X.mark
  leaf : ∀ r, r ∉ ks → findT cur r = findT root r
theorem Trk.refl (root : Nd) (ks : List (List UInt8)) : Trk root root ks := ⟨fun r X h _ => ⟨X, h, rfl⟩, fun r _ => rfl⟩
theorem Trk.step {root cur cur' : Nd} {ks ks' : List (List UInt8)} {k : ByteArray} (h : Trk root cur ks) (hk : ∀ r X, nodeT cur r = some X → ¬ r <+: L k → ∃ X', nodeT cur' r = some X' ∧ X'.mark = X.mark) (hf : ∀ r, r ≠ L k → findT cur' r = findT cur r) (hm : ∀ t, t ∈ ks' ↔ t = k.data.toList ∨ t ∈ ks) : Trk root cur' ks' := by
  refine ⟨fun r X hX hn => ?_, fun r hr => ?_⟩
  · obtain ⟨X1, h1, h2⟩ := h.keep r X hX (fun t ht => hn t ((hm t).2 (.inr ht)))
    obtain ⟨X2, h3, h4⟩ := hk r X1 h1 (hn _ ((hm _).2 (.inl rfl)))
    exact ⟨X2, h3, h4.trans h2⟩
  · rw [hf r (fun e => hr ((hm r).2 (.inl e))), h.leaf r (fun e => hr ((hm r).2 (.inr e)))]
theorem Trk.perm {root cur : Nd} {ks ks' : List (List UInt8)} (h : Trk root cur ks) (hp : ks'.Perm ks) : Trk root cur ks' := ⟨fun r X hX hn => h.keep r X hX (fun t ht => hn t (hp.mem_iff.2 ht)), fun r hr => h.leaf r (fun e => hr (hp.mem_iff.2 e))⟩
def NewL (w W : World) (cur : Nd) (ks : List (List UInt8)) : Prop := ∀ r l, r ∈ ks → findT cur r = some l → ∃ c, l.mark = ptr (c + 1) ∧ w.heap.size ≤ c ∧ WatchAt W (c + 1) c false
theorem NewL.map {w W W' : World} {cur : Nd} {ks : List (List UInt8)} (h : NewL w W cur ks) (hw : ∀ c, w.heap.size ≤ c → WatchAt W (c + 1) c false → WatchAt W' (c + 1) c false) : NewL w W' cur ks := fun r l hr hf => by
  obtain ⟨c, h1, h2, h3⟩ := h r l hr hf
  exact ⟨c, h1, h2, hw c h2 h3⟩
theorem NewL.perm {w W : World} {cur : Nd} {ks ks' : List (List UInt8)} (h : NewL w W cur ks) (hp : ks'.Perm ks) : NewL w W cur ks' := fun r l hr hf => h r l (hp.mem_iff.1 hr) hf
theorem fireK_iff (w0 : World) (root : Nd) (s : (Nat → Bool) × Int) (k : ByteArray) (x : Nat) : (fireK w0 root s k).1 x = true ↔ s.1 x = true ∨ (fireAll w0 root [k]).1 x = true := by
  have e : fireAll w0 root [k] = fireK w0 root (fun _ => false, 0) k := by
    unfold fireAll
    rw [List.foldl_cons, List.foldl_nil]
  rw [e]
  unfold fireK
  rw [T.wayF_list, T.wayF_list]
  have h1 := fold_step_iff w0 k (T.wayL k (k.size + 2) (some root) 0) s x
  have h2 := fold_step_iff w0 k (T.wayL k (k.size + 2) (some root) 0) (fun _ => false, 0) x
  rw [h1, h2]
  simp only [Bool.false_eq_true, false_or]
theorem fire_iff (w0 : World) (root : Nd) (x : Nat) : ∀ (ks : List ByteArray) (s : (Nat → Bool) × Int), (ks.foldl (fireK w0 root) s).1 x = true ↔ s.1 x = true ∨ ∃ q ∈ ks, (fireAll w0 root [q]).1 x = true
  | [], s => by simp
  | k :: ks, s => by
    rw [List.foldl_cons, fire_iff w0 root x ks, fireK_iff]
    simp [or_assoc]
theorem fires (w0 : World) (root : Nd) (x : Nat) (ks : List ByteArray) : (fireAll w0 root ks).1 x = true ↔ ∃ q ∈ ks, (fireAll w0 root [q]).1 x = true := by
  have h := fire_iff w0 root x ks (fun _ => false, 0)
  simp only [Bool.false_eq_true, false_or] at h
  exact h
theorem mk_lt {w : World} {m : Value} (h : MkAt w m) : chOf m < w.heap.size := by
  obtain ⟨c, d, e, hw⟩ := h
  rw [e, chOf_ptr]
  exact (Array.getElem?_eq_some_iff.1 hw.ch).1
theorem fire_old {w : World} {root : Nd} (hg : T.Good root) (hM : Mks w root) (w0 : World) (ks : List ByteArray) {c : Nat} (hc : w.heap.size ≤ c) : (fireAll w0 root ks).1 c = false := by
  cases e : (fireAll w0 root ks).1 c with
  | false => rfl
  | true =>
    exfalso
    obtain ⟨q, _, e⟩ := (fires w0 root c ks).1 e
    rcases (fire_key hg w0 q c).1 e with ⟨j, _, X, hX, eX⟩ | ⟨l, hl, el⟩
    · have := mk_lt (hM _ (node_mk hg.ok hX)); omega
    · have := mk_lt (hM _ (leaf_mk hg.ok hl)); omega
set_option maxRecDepth 100000 in
set_option maxHeartbeats 8000000 in
theorem doneW (w : World) (b v tb : Nat) (n : Int) (root : Nd) (hb : BaseAt w b v tb n false) (ht : Tr w tb root) (hM : Mks w root) (hL : Lone root) (A : Option Addr) (c : Nat) (cs : List Chg)
    (hR : ∀ W, FarP tAll w W → (∀ B, B ≤ w.heap.size → B ≤ b → Below B w W) → ChAt W A cs) (hk : ∀ c ∈ cs, c.key.size < 4000000000000) (hlen : cs.length < 1000000000) (hs : (All root).length + cs.length < 3999999999999) (hn0 : 0 ≤ n) (hn1 : n < 1000000000000) :
    Calls Tryz.prog 10 #[ptr b, .slice A cs.length c, .bool true] w fun e w' => e = .returned (.bool true) ∧ ∃ root' n', After w w' b root root' n' ∧ (All root').length ≤ (All root).length + cs.length ∧ (∀ r, valT root' r = runV (valT root) cs r) ∧ n' = nOf true (valT root) cs n ∧ Lone root' ∧ ∃ (W : World) (ks : List ByteArray), Trk root root' (ks.map L) ∧ (∀ k ∈ ks, ∃ c ∈ cs, L k = L c.key) ∧ NewL w w' root' (ks.map L) ∧ ∀ c d, WatchAt w (c + 1) c d → WatchAt w' (c + 1) c (d || (fireAll W root ks).1 c) := by
  have q1 := Aside0.mk (beginFree w b v tb n hb)
  have hcb : Aside0 (CellsOf w tXB (fun k => k = b)) := ⟨fun k e => by rw [e]; exact ⟨_, _, _, hb.base, rfl⟩⟩
  have HH := Aside0.mk (And.intro hb (And.intro ht hM))
  have HL := Aside0.mk hL
  have HR := Aside0.mk hR
  have HK := Aside0.mk hk
  have hbl : b < w.heap.size := (Array.getElem?_eq_some_iff.1 hb.base).1
  have HS := Aside0.mk (And.intro hs (And.intro hn0 (And.intro hn1 hbl)))
  obtain ⟨N, eN⟩ : ∃ N, cs.length = N := ⟨_, rfl⟩
  have HN := Aside0.mk eN
  have hN : N < 1000000000 := by omega
  rw [eN]
  clear hb ht hM hL hR hk hlen hs hn0 hn1 hbl eN
  unfold ptr at q1 ⊢
  go_enter Tryz.func10, Tryz.ntmps10
  go_wp2_with fail
  go_at_call 18
  refine q1.out.mono ?_
  rintro e w2 ⟨x, mb, rfl, hb2, hx2, hm2, hxs, hms, hmx, ho2⟩
  have hf2 := ho2.farP hcb.out
  have ht2 : Tr w2 tb root := hf2.tr rfl rfl rfl rfl HH.out.2.1
  have hM2 : Mks w2 root := fun m hm => (HH.out.2.2 m hm).imp (fun c d h9 => ⟨d, ho2.watch hcb.out rfl h9⟩)
  have HO2 : Aside0 (Opened w2 b v tb x tb mb 0 n root root (.map [])) := ⟨⟨hb2, hx2, hm2, ht2, ht2, hM2, hM2⟩⟩
  have HX := Aside0.mk (And.intro hxs hms)
  have HB2 := Aside0.mk ho2
  clear hb2 hx2 hm2 hxs hms hmx ho2 hf2 ht2 hM2 q1
  go_wp2_with fail
  go_loopg [24] (N + 1) (fun kq v24 W => ∃ (i tx : Nat) (cur : Nd) (D : DataW Unit), v24 = .int .i64 (i : Int) ∧ Aside0 (i + kq = N + 1 ∧ i ≤ N) ∧ Aside0 (Opened W b v tb x tx mb i n root cur D) ∧ Aside0 ((∀ r, valT cur r = runV (valT root) (cs.take i) r) ∧ (All cur).length ≤ (All root).length + i ∧ (∀ s ∈ strKeys D, ∃ c ∈ cs, s = L c.key) ∧ (strKeys D = [] ↔ tchd (valT root) (cs.take i) = false) ∧ (∀ m ∈ mks cur, m ∈ mks root ∨ w.heap.size ≤ chOf m)) ∧ Aside0 (Only (fun k => k = b) w W) ∧ Aside0 (Lone cur ∧ Trk root cur (strKeys D) ∧ (strKeys D = [] → cur = root) ∧ NewL w W cur (strKeys D)))
  case atStart => exact ⟨0, tb, root, _, rfl, ⟨by omega⟩, HO2, ⟨fun r => rfl, Nat.le_refl _, fun s hs => (by cases hs), ⟨fun _ => rfl, fun _ => rfl⟩, fun m hm => .inl hm⟩, HB2, ⟨HL.out, Trk.refl _ _, fun _ => rfl, fun r l hr _ => by cases hr⟩⟩
  case round =>
    obtain ⟨i, tx, cur, D, rfl, HI, HO, HV, HW, HX9⟩ := hrel
    by_cases hi : i < N
    · have hi' : i < cs.length := by rw [HN.out]; exact hi
      have hbw : ∀ B, B ≤ w.heap.size → B ≤ b → Below B w wr := fun B h1 h2 => HW.out.below B h1 (fun k _ e => by rw [e]; exact h2)
      obtain ⟨ad, ea, k0, k1, k2⟩ := HR.out wr ((HW.out.farP hcb.out).mono (fun t h => by unfold tAll at h; unfold tXB; rw [Bool.or_eq_false_iff] at h; exact h.1)) hbw i hi'
      obtain ⟨o, eo⟩ : ∃ o, cs[i] = o := ⟨_, rfl⟩
      have hmem : o ∈ cs := by rw [← eo]; exact List.getElem_mem _
      have hks : Aside0 (o.key.size < 4000000000000) := ⟨HK.out o hmem⟩
      have htk : cs.take (i + 1) = cs.take i ++ [o] := by rw [List.take_add_one, List.getElem?_eq_getElem hi', eo]; rfl
      have HT := Aside0.mk (And.intro htk hmem)
      rw [eo] at k0 k1 k2
      clear eo hi' hbw htk hmem
      obtain ⟨dr, key, val⟩ := o
      dsimp only at k0 k1 k2 hks
      have k1' : wr.cell? ⟨(ad.add (i * 3)).block, (ad.add (i * 3)).off + 1, none⟩ = some (.string key) := by rw [← add_field _ _ 1 (by omega)]; exact k1
      have k2' : wr.cell? ⟨(ad.add (i * 3)).block, (ad.add (i * 3)).off + 2, none⟩ = some (.int .i64 val) := by rw [← add_field _ _ 2 (by omega)]; exact k2
      subst ea
      clear k1 k2
      have hin : (i : Int) < (N : Int) := by omega
      go_upto_region 7 with fail
      obtain ⟨G, eG⟩ : ∃ G, wr.heap.size = G := ⟨_, rfl⟩
      obtain ⟨W4, eW4⟩ : ∃ W4, wr.alloc (Obj.cells #[.bool dr, .string key, .int .i64 val] 30) = W4 := ⟨_, rfl⟩
      have HW4 : Aside0 (W4.heap[G]? = some (.cells #[.bool dr, .string key, .int .i64 val] 30 (0, 0)) ∧ Below wr.heap.size wr W4) := ⟨by rw [← eW4, ← eG]; exact World.alloc_heap_new wr _, by rw [← eW4]; exact (Below.refl _ wr).alloc (Nat.le_refl _) _⟩
      rw [eW4, eG]
      have HN4 : Aside0 (NewL w W4 cur (strKeys D)) := ⟨HX9.out.2.2.2.map (fun c _ h9 => watch_below h9 HW4.out.2)⟩
      have hb4 := HW4.out.1
      have b0 : W4.cell? ⟨G, 0, none⟩ = some (.bool dr) := by rw [blk_cell hb4]; rfl
      have b1 : W4.cell? ⟨G, 1, none⟩ = some (.string key) := by rw [blk_cell hb4]; rfl
      have b2 : W4.cell? ⟨G, 2, none⟩ = some (.int .i64 val) := by rw [blk_cell hb4]; rfl
      have HO4 := Aside0.mk (HO.out.below HW4.out.2)
      have HW5 : Aside0 (Only (fun k => k = b) w W4) := ⟨(HW.out.trans (Only.of (p := fun _ => False) HW4.out.2)).imp (fun k _ h => h.elim id (fun e => e.elim))⟩
      have hsz : (All cur).length < 3999999999999 := by have := HV.out.2.1; have := HS.out.1; have := HN.out; omega
      have hnd : i < 1000000000000 := by omega
      have q2 := Aside0.mk (fun h : dr = true => txnDropW W4 x b tx mb i D cur HO4.out.txn HO4.out.tch hnd HO4.out.own HO4.out.mkc HX9.out.1 key hks.out hsz)
      have q3 := Aside0.mk (fun h : dr = false => txnSetW W4 x b tx mb i D cur HO4.out.txn HO4.out.tch hnd HO4.out.own HO4.out.mkc HX9.out.1 key val hks.out hsz)
      clear hb4 eW4 eG k0 k1' k2' hin hsz hnd
      unfold ptr at q2 q3
      cases dr with
      | true =>
        go_wp2_with fail
        go_at_call 24
        refine (q2.out (by first | rfl | trivial)).mono ?_
        rintro e w5 ⟨old, tx', cur', D', rfl, hx5, hm5, hD5, ht5, hv5, hl5, hk5, hlo5, hke5, hfi5, hid5, ho5⟩
        have HX5 : Aside0 (Lone cur' ∧ Trk root cur' (strKeys D') ∧ (strKeys D' = [] → cur' = root) ∧ NewL w w5 cur' (strKeys D')) := by
          have hN5 : NewL w w5 cur (strKeys D) := HN4.out.map (fun c _ h9 => txn_watch HO4.out.txn HO4.out.tch ho5 h9)
          rcases hD5 with ⟨e, hno⟩ | ⟨hyes, cc, e⟩
          · rw [e, hid5 hno]; exact ⟨⟨HX9.out.1, HX9.out.2.1, HX9.out.2.2.1, hN5⟩⟩
          · rw [e]
            refine ⟨hlo5, HX9.out.2.1.step hke5 hfi5 (fun t => HO4.out.tch.keys _ t _), fun h => ?_, fun r l hr hf => ?_⟩
            · have h2 := (HO4.out.tch.keys key.data.toList key.data.toList (.lit (.int .i64 cc))).2 (.inl rfl)
              rw [h] at h2
              cases h2
            · by_cases hrk : r = L key
              · have h8 := hv5 r
                rw [if_pos hrk] at h8
                unfold valT at h8
                rw [hf] at h8
                cases h8
              · rcases (HO4.out.tch.keys _ r _).1 hr with h7 | h7
                · exact absurd h7 hrk
                · rw [hfi5 r hrk] at hf
                  exact hN5 r l h7 hf
        clear hlo5 hke5 hfi5 hid5
        have HO5 := Aside0.mk (HO4.out.step ho5 hx5 hm5 ht5 hk5)
        have hmx : w.heap.size ≤ mb ∧ w.heap.size ≤ x := ⟨HX.out.2, HX.out.1⟩
        have HW6 : Aside0 (Only (fun k => k = b) w w5) := ⟨(HW5.out.trans ho5).imp (fun k hk h => by rcases h with h | h | h; exact h; exact absurd hk (by omega); exact absurd hk (by omega))⟩
        have HV5 : Aside0 ((∀ r, valT cur' r = runV (valT root) (cs.take (i + 1)) r) ∧ (All cur').length ≤ (All root).length + (i + 1) ∧ (∀ s ∈ strKeys D', ∃ c ∈ cs, s = L c.key) ∧ (strKeys D' = [] ↔ tchd (valT root) (cs.take (i + 1)) = false) ∧ (∀ m ∈ mks cur', m ∈ mks root ∨ w.heap.size ≤ chOf m)) := by
          have hf : valT cur = runV (valT root) (cs.take i) := funext HV.out.1
          have ht1 : tchd (valT root) (cs.take (i + 1)) = (tchd (valT root) (cs.take i) || (valT cur (L key)).isSome) := by rw [HT.out.1, tchd_snoc, ← hf]; rfl
          refine ⟨fun r => ?_, by have := HV.out.2.1; omega, fun s hs => ?_, ?_, fun m hm => ?_⟩
          · rw [HT.out.1, runV_snoc, ← hf, hv5]; rfl
          · rcases hD5 with ⟨e, -⟩ | ⟨-, cc, e⟩
            · rw [e] at hs; exact HV.out.2.2.1 s hs
            · rw [e] at hs
              rcases (HO4.out.tch.keys _ _ _).1 hs with h | h
              · exact ⟨_, HT.out.2, h⟩
              · exact HV.out.2.2.1 s h
          · rw [ht1]
            rcases hD5 with ⟨e, hno⟩ | ⟨hyes, cc, e⟩
            · rw [e, hno]; simpa using HV.out.2.2.2.1
            · have h1 : (valT cur (L key)).isSome = true := by cases h : valT cur (L key) with | none => exact absurd h hyes | some _ => rfl
              rw [h1, Bool.or_true]
              refine ⟨fun h => ?_, fun h => by cases h⟩
              have h2 := (HO4.out.tch.keys key.data.toList key.data.toList (.lit (.int .i64 cc))).2 (.inl rfl)
              rw [← e, h] at h2
              cases h2
          · rcases hk5 m hm with h | ⟨c, h1, h2, h3⟩
            · exact HV.out.2.2.2.2 m h
            · right; rw [h1]; exact Nat.le_trans HW5.out.size h2
        clear hx5 hm5 hD5 ht5 hv5 hl5 hk5 ho5 b0 b1 b2 q2 q3 hmx
        go_wp2_with fail
        go_roundg (N - i)
        case measure => have := HI.out; omega
        case rel => exact ⟨i + 1, tx', cur', D', by simp, ⟨by have := HI.out; omega⟩, HO5, HV5, HW6, HX5⟩
      | false =>
        go_wp2_with fail
        go_at_call 26
        refine (q3.out (by first | rfl | trivial)).mono ?_
        rintro e w5 ⟨old, had, tx', cur', cc, rfl, hx5, hm5, ht5, hv5, hl5, hk5, hlo5, hke5, hfi5, hnl5, ho5⟩
        have HX5 : Aside0 (Lone cur' ∧ Trk root cur' (strKeys (D.put (.string key.data.toList) (.lit (.int .i64 cc)))) ∧ (strKeys (D.put (.string key.data.toList) (.lit (.int .i64 cc))) = [] → cur' = root) ∧ NewL w w5 cur' (strKeys (D.put (.string key.data.toList) (.lit (.int .i64 cc))))) := by
          have hN5 : NewL w w5 cur (strKeys D) := HN4.out.map (fun c _ h9 => txn_watch HO4.out.txn HO4.out.tch ho5 h9)
          refine ⟨hlo5, HX9.out.2.1.step hke5 hfi5 (fun t => HO4.out.tch.keys _ t _), fun h => ?_, fun r l hr hf => ?_⟩
          · have h2 := (HO4.out.tch.keys key.data.toList key.data.toList (.lit (.int .i64 cc))).2 (.inl rfl)
            rw [h] at h2
            cases h2
          · by_cases hrk : r = L key
            · obtain ⟨l', c, h6, h7, h8, h9⟩ := hnl5
              rw [hrk, h6] at hf
              cases hf
              exact ⟨c, h7, Nat.le_trans HW5.out.size h8, h9⟩
            · rcases (HO4.out.tch.keys _ r _).1 hr with h7 | h7
              · exact absurd h7 hrk
              · rw [hfi5 r hrk] at hf
                exact hN5 r l h7 hf
        clear hlo5 hke5 hfi5 hnl5
        have HO5 := Aside0.mk (HO4.out.step ho5 hx5 hm5 ht5 hk5)
        have hmx : w.heap.size ≤ mb ∧ w.heap.size ≤ x := ⟨HX.out.2, HX.out.1⟩
        have HW6 : Aside0 (Only (fun k => k = b) w w5) := ⟨(HW5.out.trans ho5).imp (fun k hk h => by rcases h with h | h | h; exact h; exact absurd hk (by omega); exact absurd hk (by omega))⟩
        have HV5 : Aside0 ((∀ r, valT cur' r = runV (valT root) (cs.take (i + 1)) r) ∧ (All cur').length ≤ (All root).length + (i + 1) ∧ (∀ s ∈ strKeys (D.put (.string key.data.toList) (.lit (.int .i64 cc))), ∃ c ∈ cs, s = L c.key) ∧ (strKeys (D.put (.string key.data.toList) (.lit (.int .i64 cc))) = [] ↔ tchd (valT root) (cs.take (i + 1)) = false) ∧ (∀ m ∈ mks cur', m ∈ mks root ∨ w.heap.size ≤ chOf m)) := by
          have hf : valT cur = runV (valT root) (cs.take i) := funext HV.out.1
          have ht1 : tchd (valT root) (cs.take (i + 1)) = true := by rw [HT.out.1, tchd_snoc]; show (_ || (true || _)) = true; rw [Bool.true_or, Bool.or_true]
          refine ⟨fun r => ?_, by have := HV.out.2.1; omega, fun s hs => ?_, ?_, fun m hm => ?_⟩
          · rw [HT.out.1, runV_snoc, ← hf, hv5]; rfl
          · rcases (HO4.out.tch.keys _ _ _).1 hs with h | h
            · exact ⟨_, HT.out.2, h⟩
            · exact HV.out.2.2.1 s h
          · rw [ht1]
            refine ⟨fun h => ?_, fun h => by cases h⟩
            have h2 := (HO4.out.tch.keys key.data.toList key.data.toList (.lit (.int .i64 cc))).2 (.inl rfl)
            rw [h] at h2
            cases h2
          · rcases hk5 m hm with h | ⟨c, h1, h2, h3⟩
            · exact HV.out.2.2.2.2 m h
            · right; rw [h1]; exact Nat.le_trans HW5.out.size h2
        clear hx5 hm5 ht5 hv5 hl5 hk5 ho5 b0 b1 b2 q2 q3 hmx
        go_wp2_with fail
        go_roundg (N - i)
        case measure => have := HI.out; omega
        case rel => exact ⟨i + 1, tx', cur', _, by simp, ⟨by have := HI.out; omega⟩, HO5, HV5, HW6, HX5⟩
    · have hin : i = N := by have := HI.out; omega
      subst hin
      have htake : cs.take i = cs := by rw [← HN.out]; exact List.take_length
      have HT := Aside0.mk htake
      clear htake
      have hfw := (HW.out.farP hcb.out).mono (q := tAll) (fun t h => by unfold tAll at h; unfold tXB; rw [Bool.or_eq_false_iff] at h; exact h.1)
      have hww : ∀ c d, WatchAt w (c + 1) c d → WatchAt wr (c + 1) c d := fun c d h9 => HW.out.watch hcb.out rfl h9
      have HFW := Aside0.mk (And.intro hfw (And.intro hww (HW.out.farD hcb.out)))
      have hbel : ∀ B, B ≤ w.heap.size → B ≤ b → Below B w wr := fun B h1 h2 => HW.out.below B h1 (fun k _ e => by rw [e]; exact h2)
      have HBEL := Aside0.mk hbel
      have hnd : i < 1000000000000 := by omega
      clear hfw hww hbel
      obtain ⟨tt, ett⟩ : ∃ tt, tchd (valT root) cs = tt := ⟨_, rfl⟩
      have HTT := Aside0.mk ett
      clear ett
      cases tt with
      | false =>
        have hke : strKeys D = [] := HV.out.2.2.2.1.2 (by rw [HT.out]; exact HTT.out)
        have q4 := Aside0.mk (txnCommit0 wr x b v tb tx mb i n D HO.out.base HO.out.txn HO.out.tch hnd hke)
        clear hke
        unfold ptr at q4
        go_wp2_with fail
        go_at_call 30
        refine q4.out.mono ?_
        rintro e w5 ⟨rfl, hb5, ho5⟩
        have hcx : CellsOf wr tXB (fun k => k = x ∨ k = b) := fun k e => by
          rcases e with e | e
          · rw [e]; exact ⟨_, _, _, HO.out.txn, rfl⟩
          · rw [e]; exact ⟨_, _, _, HO.out.base.base, rfl⟩
        have hf5 := ho5.farP hcx
        have H5 : Aside0 (After w w5 b root root n) := by
          refine ⟨⟨v, tb, hb5, hf5.tr rfl rfl rfl rfl HO.out.tr⟩, fun m hm => (HO.out.mkd m hm).imp (fun c d h9 => ⟨d, ho5.watch hcx rfl h9⟩), HFW.out.1.trans (hf5.mono (fun t h => by unfold tAll at h; unfold tXB; rw [Bool.or_eq_false_iff] at h; exact h.1)), fun c d h9 => ⟨d, ho5.watch hcx rfl (HFW.out.2.1 c d h9)⟩, fun B h1 h2 h3 => ⟨(HBEL.out B h1 h2).trans (ho5.below B (Nat.le_trans h1 HW.out.size) (fun k _ e => by
            rcases e with e | e
            · rw [e]; exact Nat.le_trans h1 HX.out.1
            · rw [e]; exact h2)), h3⟩, Nat.le_trans HW.out.size ho5.size, HFW.out.2.2.trans (ho5.farD hcx)⟩
        have HSH := Aside0.mk (fun c d (h9 : WatchAt w (c + 1) c d) => ho5.watch hcx rfl (HFW.out.2.1 c d h9))
        clear hb5 ho5 hcx hf5
        go_wp2_with fail
        go_ret
        have hsh : ∀ c d, WatchAt w (c + 1) c d → WatchAt w5 (c + 1) c (d || (fireAll w root []).1 c) := fun c d h9 => by
            have e9 : (fireAll w root []).1 c = false := rfl
            rw [e9, Bool.or_false]
            exact HSH.out c d h9
        refine ⟨rfl, root, n, H5.out, by omega, fun r => ?_, by unfold nOf; rw [HTT.out]; rfl, HL.out, w, [], Trk.refl _ _, fun k hk => (by cases hk), fun r l hr _ => (by cases hr), hsh⟩
        show valT root r = runV (valT root) cs r
        rw [run_idle _ _ HTT.out]
      | true =>
        have hkne : strKeys D ≠ [] := fun h => by
          have h9 := HV.out.2.2.2.1.1 h
          rw [HT.out, HTT.out] at h9
          cases h9
        have hkd : ∀ s ∈ strKeys D, s.length < 4000000000000 := fun s hs => by
          obtain ⟨c, hc, e⟩ := HV.out.2.2.1 s hs
          rw [e, T.L_len]
          exact HK.out c hc
        have q4 := Aside0.mk (txnCommit wr x b v tb tx mb i n D root HO.out.base HO.out.txn HO.out.tch hnd HO.out.tr HO.out.mkd hkd hkne HS.out.2.1 HS.out.2.2.1)
        clear hkne hkd
        unfold ptr at q4
        go_wp2_with fail
        go_at_call 30
        refine q4.out.mono ?_
        rintro e w5 ⟨cnt, rfl, hD⟩
        obtain ⟨v5, hb5⟩ := hD.base
        have H5 : Aside0 (After w w5 b root cur (n + 1)) := by
          refine ⟨⟨v5, tx, hb5, hD.far.tr rfl rfl rfl rfl HO.out.own⟩, fun m hm => (HO.out.mkc m hm).imp hD.watch, HFW.out.1.trans hD.far, fun c d h9 => hD.watch c d (HFW.out.2.1 c d h9), fun B h1 h2 h3 => ⟨(HBEL.out B h1 h2).trans (hD.below B (Nat.le_trans h1 HW.out.size) (Nat.le_trans h1 HX.out.1) h2 h3), fun m hm => ?_⟩, Nat.le_trans HW.out.size hD.size, HFW.out.2.2.trans hD.defr⟩
          rcases HV.out.2.2.2.2 m hm with h | h
          · exact h3 m h
          · exact Nat.le_trans h1 h
        have HSH : Aside0 (∃ (W : World) (ks : List ByteArray), (ks.map L).Perm (strKeys D) ∧ NewL w w5 cur (ks.map L) ∧ ∀ c d, WatchAt w (c + 1) c d → WatchAt w5 (c + 1) c (d || (fireAll W root ks).1 c)) := by
          obtain ⟨W, ks, -, hp, hs⟩ := hD.shot
          refine ⟨W, ks, hp, (HX9.out.2.2.2.map (fun c hc h9 => ?_)).perm hp, fun c d h9 => hs c d (HFW.out.2.1 c d h9)⟩
          have h8 := hs c false h9
          rw [fire_old HH.out.2.1.fine.toGood HH.out.2.2 W ks hc] at h8
          exact h8
        clear hb5 hD
        go_wp2_with fail
        go_ret
        obtain ⟨W, ks, hp, hnw, hs⟩ := HSH.out
        refine ⟨rfl, cur, n + 1, H5.out, HV.out.2.1, fun r => ?_, by unfold nOf; rw [HTT.out]; rfl, HX9.out.1, W, ks, HX9.out.2.1.perm hp, fun k hk => HV.out.2.2.1 _ (hp.mem_iff.1 (List.mem_map_of_mem hk)), hnw, hs⟩
        rw [HV.out.1 r, HT.out]
end Go.Proofs.YtjhgknagmiekeaaGreat.G
