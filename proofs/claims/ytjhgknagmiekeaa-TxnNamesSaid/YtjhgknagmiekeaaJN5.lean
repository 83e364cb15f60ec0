/- joined: G15 G16 -/
import Derived.Test.YtjhgknagmiekeaaJN4
set_option linter.unusedVariables false
set_option linter.unusedSimpArgs false
namespace Go.Proofs.Ytjhgknagmiekeaa.G
open Go.RowKit Go.Lib Go.Proofs Go.Conc Go.Maps
open Go.Proofs.YtjhgknagmiekeaaW.PrintWords hiding Kept
open Go.Proofs.YtjhgknagmiekeaaW.PrintLast
open Go.Proofs.Ytjhgknagmiekeaa.T (Nd NdAt ptr Tr L All valT wasV Lf Strs)
theorem FarP.mono {p q : TypeId → Bool} {w w' : World} (h : FarP p w w') (hq : ∀ t, q t = false → p t = false) : FarP q w w' := fun b cs t fr hb ht => h b cs t fr hb (hq t ht)
def tXB (t : TypeId) : Bool := t == 198 || t == 191
def tAll (t : TypeId) : Bool := t == 198 || t == 191 || t == 154
structure Done (w w' : World) (b x tb tx : Nat) (n : Int) (root : Nd) (D : DataW Unit) (cnt : Int) : Prop where
  base : ∃ v', BaseAt w' b v' tx (n + 1) false
  far : FarP tAll w w'
  watch : ∀ c d, WatchAt w (c + 1) c d → ∃ d', WatchAt w' (c + 1) c d'
  count : ∃ (W : World) (ks : List ByteArray), (∀ c d, WatchAt w (c + 1) c d → WatchAt W (c + 1) c d) ∧ (ks.map L).Perm (strKeys D) ∧ cnt = (fireAll W root ks).2
  below : ∀ B, B ≤ w.heap.size → B ≤ x → B ≤ b → (∀ m ∈ mks root, B ≤ chOf m) → Below B w w'
  size : w.heap.size ≤ w'.heap.size
def cm9_T : Bool × List (List Nat × List Nat) := (true, [([], []), ([0], [0]), ([1], [1]), ([2], [2]), ([3], [3]), ([4], [4]), ([], []), ([6], [6]), ([7], [7]), ([8], [8]), ([], []), ([10], [10]), ([11], [11]), ([12], [12]), ([13], [13]), ([9, 14], [9, 14]), ([15], [15]), ([5, 16], [5, 16])])
def cm9_B : List Nat := [0, 1, 3, 7, 15, 31, 0, 64, 192, 448, 0, 1024, 3072, 7168, 15360, 32704, 65472, 131071]
theorem cm9_bits : waitsOk cm9_T.2 cm9_B = true := by kernel_rfl
theorem cm9_tab : rtab .any (opsOf Try.f115 9) = cm9_T := by kernel_rfl
attribute [local go_sem] Oper.semAt_some
set_option maxRecDepth 100000 in
set_option maxHeartbeats 4000000 in
theorem txnCommit (w : World) (x b v tb tx mb nn : Nat) (n : Int) (D : DataW Unit) (root : Nd) (hb : BaseAt w b v tb n true) (hx : TxnAt w x b tx mb false) (hm : Tch w mb nn D) (hnn : nn < 1000000000000) (ht : Tr w tb root) (hM : Mks w root) (hD : ∀ s ∈ strKeys D, s.length < 4000000000000) (hne : strKeys D ≠ []) (hn0 : 0 ≤ n) (hn1 : n < 1000000000000) :
    Calls Try.prog 115 #[ptr x] w fun e w' => ∃ cnt : Int, e = .returned (.tuple #[.int .i64 cnt, .int .i64 0]) ∧ Done w w' b x tb tx n root D cnt := by
  have hlen : (strKeys D).length < 1000000000000 := by
    obtain ⟨es, cl, -, -, -, e⟩ := id hm
    have h9 := hm.size_le
    rw [e] at h9 ⊢
    unfold strKeys
    rw [List.length_map]
    exact Nat.lt_of_le_of_lt h9 hnn
  have q1 := Aside0.mk (txnTouched w x b tx mb nn D hx hm hnn)
  have x3 : w.cell? ⟨x, 3, none⟩ = some (.bool false) := by rw [blk_cell hx]; rfl
  have HH := Aside0.mk (And.intro hb (And.intro hx (And.intro ht (And.intro hM (And.intro hD (And.intro hne hlen))))))
  have hnot : ∀ (x : Bool) (w : World), (Op.unary .not (.bool x)).run Try.prog w = .ok (.bool (!x)) w := fun _ _ => rfl
  clear hb hx hm hnn ht hM hD hne hlen
  unfold ptr at q1 ⊢
  go_enter_defers Try.func115, Try.ntmps115
  go_wp2_with fail
  go_at_call 142
  refine q1.out.mono ?_
  rintro e w1 ⟨vv, ks, rfl, hrow, hperm, hb1⟩
  have hx1 := (hb1.block _ (Array.getElem?_eq_some_iff.1 HH.out.2.1).1).trans HH.out.2.1
  have y0 : w1.cell? ⟨x, 0, none⟩ = some (.pointer (some ⟨b, 0, none⟩)) := by rw [blk_cell hx1]; rfl
  have y3 : w1.cell? ⟨x, 3, none⟩ = some (.bool false) := by rw [blk_cell hx1]; rfl
  have g3 : w1.frozen? ⟨x, 3, none⟩ = false := blk_frozen hx1 3
  have H1 := Aside0.mk (And.intro hrow (And.intro hperm (And.intro hb1 hx1)))
  obtain ⟨A, c, rfl, hstr, hty⟩ := hrow.slice
  have hkl : ks.length = (strKeys D).length := by rw [← hperm.length_eq, List.length_map]
  obtain ⟨N, eN⟩ : ∃ N, ks.length = N + 1 := ⟨ks.length - 1, by have := List.length_pos_iff.2 HH.out.2.2.2.2.2.1; omega⟩
  have HN := Aside0.mk eN
  have hNl : N < 1000000000000 := by have := HH.out.2.2.2.2.2.2; omega
  rw [eN]
  clear hrow hperm hb1 hx1 hstr hty q1 x3 hkl eN
  go_upto_region 5 with fail
  obtain ⟨W2, eW2⟩ : ∃ W2, w1.setCell ⟨x, 3, none⟩ (.bool true) = W2 := ⟨_, rfl⟩
  have ho2 : Only (fun k => k = x) w W2 := by rw [← eW2]; exact (Only.of (p := fun k => k = x) H1.out.2.2.1).put x 3 (.inl rfl) _
  have hx2 : TxnAt W2 x b tx mb true := by rw [← eW2]; exact set_atG H1.out.2.2.2 3 _
  have hcx : CellsOf w (fun t => t == 198) (fun k => k = x) := fun k e => by rw [e]; exact ⟨_, _, _, HH.out.2.1, rfl⟩
  have hb2 : BaseAt W2 b v tb n true := ⟨ho2.farP hcx _ _ _ _ HH.out.1.base rfl, ho2.farP hcx _ _ _ _ HH.out.1.ver rfl⟩
  have hrow2 : TxtRow W2 (.slice A ks.length c) ks := by
    have h1 : TxtRow w1 (.slice A ks.length c) ks := H1.out.1
    have h2 : FarP (fun t => t == 198) w1 W2 := by
      rw [← eW2]
      have h3 : Only (fun k => k = x) w1 (w1.setCell ⟨x, 3, none⟩ (.bool true)) := (Only.refl (fun k => k = x) w1).put x 3 (.inl rfl) _
      exact h3.farP (fun k e => by rw [e]; exact ⟨_, _, _, H1.out.2.2.2, rfl⟩)
    exact h1.far rfl h2
  have x0 : W2.cell? ⟨x, 0, none⟩ = some (.pointer (some ⟨b, 0, none⟩)) := by rw [blk_cell hx2]; rfl
  have x1 : W2.cell? ⟨x, 1, none⟩ = some (.pointer (some ⟨tx, 0, none⟩)) := by rw [blk_cell hx2]; rfl
  have v1 : W2.cell? ⟨v, 1, none⟩ = some (.int .u64 n) := by rw [blk_cell hb2.ver]; rfl
  have q2 := Aside0.mk (loadPtr b v _ _ W2 (by rw [blk_cell hb2.base]; rfl) hb2.ver)
  have H2 := Aside0.mk (And.intro ho2 (And.intro hx2 (And.intro hb2 (And.intro hrow2 hcx))))
  rw [eW2]
  clear y0 y3 g3 ho2 hx2 hcx hb2 hrow2 eW2
  have hNe : ¬ ((N + 1 : Nat) : Int) = 0 := by omega
  have hwr : IntKind.u64.wrap (n + 1) = n + 1 := by rw [IntKind.wrap_u64]; omega
  unfold ptr at q2
  go_wp2_with (first | (go_at_call 140; refine q2.out.mono ?_; rintro e w' ⟨rfl, hw⟩; subst hw))
  refine Code.wp_mono NoPanic.imp ?_
  refine start_ (n := 18) (S := (fun Z => Z.cell? ⟨x, 0, none⟩ = some (.pointer (some ⟨b, 0, none⟩)) ∧ Z.cell? ⟨x, 1, none⟩ = some (.pointer (some ⟨tx, 0, none⟩)) ∧ Z.cell? ⟨v, 1, none⟩ = some (.int .u64 n))) (ds := [17]) #[false, false, false, false, false, false, false, false, false, false, false, false, false, false, false, false, false, false] (by kernel_rfl) rfl rfl ⟨x0, x1, v1⟩ (fun hHeld => ?_); refine with_tabW cm9_tab cm9_bits (fun HT_ HW_ => ?_)
  refine pure_ (i := 0) (N := some 31) (v := ?_) (a' := ?_) #[true, false, false, false, false, false, false, false, false, false, false, false, false, false, false, false, false, false] rfl rfl (any_of HT_.out (by kernel_rfl)) (fun _ _ _ h => h) (Or.inl ⟨by rfl, ?_⟩) ?_ ?_
  rotate_left
  · intro w'
    go_simp
    with_reducible rfl
  rotate_left
  · simp only [Act.put, List.setIfInBounds_toArray, List.set_cons_zero, List.set_cons_succ, i64_w, i32_w]
    rfl
  refine pure_ (i := 1) (N := some 32) (v := ?_) (a' := ?_) #[true, true, false, false, false, false, false, false, false, false, false, false, false, false, false, false, false, false] rfl rfl (any_of HT_.out (by kernel_rfl)) (fun _ _ _ h => h) (Or.inl ⟨by rfl, ?_⟩) ?_ ?_
  rotate_left
  · intro w'
    go_simp
    with_reducible rfl
  rotate_left
  · simp only [Act.put, List.setIfInBounds_toArray, List.set_cons_zero, List.set_cons_succ, i64_w, i32_w]
    rfl
  refine pure_ (i := 2) (N := some 33) (v := ?_) (a' := ?_) #[true, true, true, false, false, false, false, false, false, false, false, false, false, false, false, false, false, false] rfl rfl (any_of HT_.out (by kernel_rfl)) (fun _ _ _ h => h) (Or.inl ⟨by rfl, ?_⟩) ?_ ?_
  rotate_left
  · intro w'
    go_simp
    with_reducible rfl
  rotate_left
  · simp only [Act.put, List.setIfInBounds_toArray, List.set_cons_zero, List.set_cons_succ, i64_w, i32_w]
    rfl
  refine pure_ (i := 6) (N := some 37) (v := ?_) (a' := ?_) #[true, true, true, false, false, false, true, false, false, false, false, false, false, false, false, false, false, false] rfl rfl (any_of HT_.out (by kernel_rfl)) (fun _ _ _ h => h) (Or.inl ⟨by rfl, ?_⟩) ?_ ?_
  rotate_left
  · intro w'
    go_simp
    with_reducible rfl
  rotate_left
  · simp only [Act.put, List.setIfInBounds_toArray, List.set_cons_zero, List.set_cons_succ, i64_w, i32_w]
    rfl
  refine pure_ (i := 7) (N := some 38) (v := ?_) (a' := ?_) #[true, true, true, false, false, false, true, true, false, false, false, false, false, false, false, false, false, false] rfl rfl (any_of HT_.out (by kernel_rfl)) (fun _ _ _ h => h) (Or.inl ⟨by rfl, ?_⟩) ?_ ?_
  rotate_left
  · intro w'
    go_simp
    with_reducible rfl
  rotate_left
  · simp only [Act.put, List.setIfInBounds_toArray, List.set_cons_zero, List.set_cons_succ, i64_w, i32_w]
    rfl
  refine pure_ (i := 8) (N := some 39) (v := ?_) (a' := ?_) #[true, true, true, false, false, false, true, true, true, false, false, false, false, false, false, false, false, false] rfl rfl (any_of HT_.out (by kernel_rfl)) (fun _ _ _ h => h) (Or.inl ⟨by rfl, ?_⟩) ?_ ?_
  rotate_left
  · intro w'
    go_simp
    with_reducible rfl
  rotate_left
  · simp only [Act.put, List.setIfInBounds_toArray, List.set_cons_zero, List.set_cons_succ, i64_w, i32_w]
    rfl
  refine pure_ (i := 10) (N := some 41) (v := ?_) (a' := ?_) #[true, true, true, false, false, false, true, true, true, false, true, false, false, false, false, false, false, false] rfl rfl (any_of HT_.out (by kernel_rfl)) (fun _ _ _ h => h) (Or.inl ⟨by rfl, ?_⟩) ?_ ?_
  rotate_left
  · intro w'
    go_simp
    with_reducible rfl
  rotate_left
  · simp only [Act.put, List.setIfInBounds_toArray, List.set_cons_zero, List.set_cons_succ, i64_w, i32_w]
    rfl
  refine pure_ (i := 11) (N := some 42) (v := ?_) (a' := ?_) #[true, true, true, false, false, false, true, true, true, false, true, true, false, false, false, false, false, false] rfl rfl (any_of HT_.out (by kernel_rfl)) (fun _ _ _ h => h) (Or.inl ⟨by rfl, ?_⟩) ?_ ?_
  rotate_left
  · intro w'
    go_simp
    with_reducible rfl
  rotate_left
  · simp only [Act.put, List.setIfInBounds_toArray, List.set_cons_zero, List.set_cons_succ, i64_w, i32_w]
    rfl
  refine pure_ (i := 12) (N := some 43) (v := ?_) (a' := ?_) #[true, true, true, false, false, false, true, true, true, false, true, true, true, false, false, false, false, false] rfl rfl (any_of HT_.out (by kernel_rfl)) (fun _ _ _ h => h) (Or.inl ⟨by rfl, ?_⟩) ?_ ?_
  rotate_left
  · intro w'
    go_simp
    with_reducible rfl
  rotate_left
  · simp only [Act.put, List.setIfInBounds_toArray, List.set_cons_zero, List.set_cons_succ, i64_w, i32_w]
    rfl
  refine take_ (i := 3) (N := some 34) (v := ?_) (a' := ?_) #[true, true, true, true, false, false, true, true, true, false, true, true, true, false, false, false, false, false] rfl rfl (take_ofW HT_.out HW_.out (by kernel_rfl)) (fun _ _ _ h => h) (Or.inl ⟨by rfl, ?_⟩) hHeld ?_ ?_
  rotate_left
  · rintro w' ⟨s0, s1, s2⟩
    go_simp
    with_reducible rfl
  rotate_left
  · simp only [Act.put, List.setIfInBounds_toArray, List.set_cons_zero, List.set_cons_succ, i64_w, i32_w]
    rfl
  refine take_ (i := 9) (N := some 40) (v := ?_) (a' := ?_) #[true, true, true, true, false, false, true, true, true, true, true, true, true, false, false, false, false, false] rfl rfl (take_ofW HT_.out HW_.out (by kernel_rfl)) (fun _ _ _ h => h) (Or.inl ⟨by rfl, ?_⟩) hHeld ?_ ?_
  rotate_left
  · rintro w' ⟨s0, s1, s2⟩
    go_simp
    with_reducible rfl
  rotate_left
  · simp only [Act.put, List.setIfInBounds_toArray, List.set_cons_zero, List.set_cons_succ, i64_w, i32_w]
    rfl
  refine take_ (i := 13) (N := some 44) (v := ?_) (a' := ?_) #[true, true, true, true, false, false, true, true, true, true, true, true, true, true, false, false, false, false] rfl rfl (take_ofW HT_.out HW_.out (by kernel_rfl)) (fun _ _ _ h => h) (Or.inl ⟨by rfl, ?_⟩) hHeld ?_ ?_
  rotate_left
  · rintro w' ⟨s0, s1, s2⟩
    go_simp
    with_reducible rfl
  rotate_left
  · simp only [Act.put, List.setIfInBounds_toArray, List.set_cons_zero, List.set_cons_succ, i64_w, i32_w]
    rfl
  refine pure_ (i := 4) (N := some 35) (v := ?_) (a' := ?_) #[true, true, true, true, true, false, true, true, true, true, true, true, true, true, false, false, false, false] rfl rfl (any_of HT_.out (by kernel_rfl)) (fun _ _ _ h => h) (Or.inl ⟨by rfl, ?_⟩) ?_ ?_
  rotate_left
  · intro w'
    go_simp
    with_reducible rfl
  rotate_left
  · simp only [Act.put, List.setIfInBounds_toArray, List.set_cons_zero, List.set_cons_succ, i64_w, i32_w]
    rfl
  refine pure_ (i := 5) (N := some 36) (v := ?_) (a' := ?_) #[true, true, true, true, true, true, true, true, true, true, true, true, true, true, false, false, false, false] rfl rfl (any_of HT_.out (by kernel_rfl)) (fun _ _ _ h => h) (Or.inl ⟨by rfl, ?_⟩) ?_ ?_
  rotate_left
  · intro w'
    go_simp
    with_reducible rfl
  rotate_left
  · simp only [Act.put, List.setIfInBounds_toArray, List.set_cons_zero, List.set_cons_succ, i64_w, i32_w]
    rfl
  refine pure_ (i := 14) (N := some 45) (v := ?_) (a' := ?_) #[true, true, true, true, true, true, true, true, true, true, true, true, true, true, true, false, false, false] rfl rfl (any_of HT_.out (by kernel_rfl)) (fun _ _ _ h => h) (Or.inl ⟨by rfl, ?_⟩) ?_ ?_
  rotate_left
  · intro w'
    go_simp
    with_reducible rfl
  rotate_left
  · simp only [Act.put, List.setIfInBounds_toArray, List.set_cons_zero, List.set_cons_succ, i64_w, i32_w]
    rfl
  refine pure_ (i := 15) (N := some 46) (v := ?_) (a' := ?_) #[true, true, true, true, true, true, true, true, true, true, true, true, true, true, true, true, false, false] rfl rfl (any_of HT_.out (by kernel_rfl)) (fun _ _ _ h => h) (Or.inl ⟨by rfl, ?_⟩) ?_ ?_
  rotate_left
  · intro w'
    go_simp
    with_reducible rfl
  rotate_left
  · simp only [Act.put, List.setIfInBounds_toArray, List.set_cons_zero, List.set_cons_succ, i64_w, i32_w]
    rfl
  refine one_ (i := 16) (N := some 47) #[true, true, true, true, true, true, true, true, true, true, true, true, true, true, true, true, true, false] rfl rfl (one_of HT_.out (by kernel_rfl)) (by decide) (fun K hK => ?_)
  refine value_ (w1 := w'.drew.alloc (.cells #[.pointer (some ⟨tx, 0, none⟩), .int .u64 (n + 1)] 194)) (v := .pointer (some ⟨w'.heap.size, 0, none⟩)) (by rfl) rfl (by go_simp) ?_
  have hb3 : Below w'.heap.size w' (w'.drew.alloc (.cells #[.pointer (some ⟨tx, 0, none⟩), .int .u64 (n + 1)] 194)) := (below_drew (Below.refl _ w')).alloc (Nat.le_refl _) _
  have h3 : (fun Z => Z.cell? ⟨x, 0, none⟩ = some (.pointer (some ⟨b, 0, none⟩)) ∧ Z.cell? ⟨x, 1, none⟩ = some (.pointer (some ⟨tx, 0, none⟩)) ∧ Z.cell? ⟨v, 1, none⟩ = some (.int .u64 n)) (w'.drew.alloc (.cells #[.pointer (some ⟨tx, 0, none⟩), .int .u64 (n + 1)] 194)) := ⟨(T.Kept.of hb3).cell x0, (T.Kept.of hb3).cell x1, (T.Kept.of hb3).cell v1⟩
  clear hHeld
  refine hK.out _ _ h3 (fun hHeld => ?_)
  clear hK K
  refine norm_ (a' := ?_) ?_ ?_
  rotate_left
  · show Act.put _ (some 47) _ = _
    simp only [Act.put, List.setIfInBounds_toArray, List.set_cons_zero, List.set_cons_succ, i64_w, i32_w]
    rfl
  obtain ⟨V, eV⟩ : ∃ V, w'.heap.size = V := ⟨_, rfl⟩
  obtain ⟨W3, eW3⟩ : ∃ W3, w'.drew.alloc (.cells #[.pointer (some ⟨tx, 0, none⟩), .int .u64 (n + 1)] 194) = W3 := ⟨_, rfl⟩
  have hv3 : W3.heap[V]? = some (.cells #[.pointer (some ⟨tx, 0, none⟩), .int .u64 (n + 1)] 194 (0, 0)) := by rw [← eW3, ← eV]; exact heap_alloc_new w'.drew _
  rw [eW3] at hb3
  have hB3 := H2.out.2.2.1.move (hb3.block _ (Array.getElem?_eq_some_iff.1 H2.out.2.2.1.base).1) (hb3.block _ (Array.getElem?_eq_some_iff.1 H2.out.2.2.1.ver).1)
  have q3 := Aside0.mk (storePtr b V _ _ _ W3 (by rw [blk_cell hB3.base]; rfl) (blk_frozen hB3.base 0) hv3)
  have H3 := Aside0.mk (And.intro hb3 (And.intro hv3 (And.intro hB3 eV)))
  rw [eW3, eV]
  clear hb3 h3 hv3 hB3 eW3 eV
  unfold ptr at q3
  refine last_ (i := 17) (N := some 48) #[true, true, true, true, true, true, true, true, true, true, true, true, true, true, true, true, true, true] rfl rfl (one_of HT_.out (by kernel_rfl)) (by decide) (fun K hK => ?_)
  refine goes_ Try.func139 (by kernel_rfl) rfl #[.pointer (some ⟨b, 0, none⟩), .pointer (some ⟨V, 0, none⟩)] (by rfl) rfl rfl (by (try simp only [List.map_toArray, List.map_cons, List.map_nil]); first | done | rfl) ?_
  refine q3.out.mono ?_
  rintro e w4 ⟨rfl, hw4⟩
  have HW4 := Aside0.mk hw4
  clear hw4 hHeld
  refine ⟨_, rfl, ?_⟩
  refine hK.out _ _ ?_
  clear hK K
  refine done_ (done_of HT_.out (by kernel_rfl)) ?_
  refine NoPanic.normal ?_
  clear q2 q3 HT_ HW_ x0 x1 v1
  have hw4 := HW4.out
  have ho4 : Only (fun k => k = x ∨ k = b) w w4 := by
    rw [hw4]
    exact (H2.out.1.trans (Only.of (p := fun k => k = b) H3.out.1)).put b 0 (.inl (.inr rfl)) _
  have hcb : CellsOf w tXB (fun k => k = x ∨ k = b) := fun k e => by
    rcases e with e | e
    · rw [e]; exact ⟨_, _, _, HH.out.2.1, rfl⟩
    · rw [e]; exact ⟨_, _, _, HH.out.1.base, rfl⟩
  have hfp := ho4.farP hcb
  have ht4 : Tr w4 tb root := hfp.tr rfl rfl rfl rfl HH.out.2.2.1
  have hM4 : Mks w4 root := fun m hm => (HH.out.2.2.2.1 m hm).imp (fun c d hw => ⟨d, ho4.watch hcb rfl hw⟩)
  have hfp3 : FarP (fun t => t == 191) W3 w4 := by
    rw [hw4]
    exact ((Only.refl (fun k => k = b) W3).put b 0 (.inl rfl) _).farP (fun k e => by rw [e]; exact ⟨_, _, _, H3.out.2.2.1.base, rfl⟩)
  have hrow4 : TxtRow w4 (.slice A ks.length c) ks := (H2.out.2.2.2.1.far (p := fun t => t == 191) rfl (FarP.of H3.out.1)).far rfl hfp3
  obtain ⟨A', c', eA, hstr, hty⟩ := hrow4.slice
  injection eA with eA1 eA2 eA3
  subst eA1
  have hszs : ∀ k ∈ ks, k.size < 4000000000000 := fun k hk => by
    have h9 := HH.out.2.2.2.2.1 (L k) (H1.out.2.1.mem_iff.1 (List.mem_map_of_mem hk))
    rwa [T.L_len] at h9
  have q5 := Aside0.mk (fireTree w4 tb root ht4 hM4 A c ks hstr hty (by have := HN.out; omega) hszs)
  rw [HN.out] at q5
  have v0 : w4.cell? ⟨v, 0, none⟩ = some (.pointer (some ⟨tb, 0, none⟩)) := by rw [blk_cell (hfp _ _ _ _ HH.out.1.ver rfl)]; rfl
  have hbV : b ≠ V := by have := (Array.getElem?_eq_some_iff.1 H2.out.2.2.1.base).1; have := H3.out.2.2.2; omega
  have hob4 : w4.heap[b]? = some (.cells #[ptr V, .int .i32 1, .int .u32 0] 191 (0, 0)) := by rw [hw4]; exact set_atG H3.out.2.2.1.base 0 _
  have hov4 : w4.heap[V]? = some (.cells #[ptr tx, .int .u64 (n + 1)] 194 (0, 0)) := by rw [hw4]; exact (Below.heap_setCell _ _ _ V (Ne.symm hbV)).trans H3.out.2.1
  have H4 := Aside0.mk (And.intro ho4 (And.intro hcb (And.intro hfp (And.intro hob4 (And.intro hov4 hbV)))))
  clear hw4 ho4 hcb hfp ht4 hM4 hfp3 hrow4 hstr hty hszs eA2 eA3 hob4 hov4 hbV HW4
  unfold ptr at q5
  go_wp2_with fail
  go_at_call 61
  refine q5.out.mono ?_
  rintro e w5 ⟨rfl, hsh⟩
  have hob5 := hsh.farP _ _ _ _ H4.out.2.2.2.1 rfl
  have hov5 := hsh.farP _ _ _ _ H4.out.2.2.2.2.1 rfl
  have H5 := Aside0.mk (And.intro hsh (And.intro hob5 hov5))
  clear hsh hob5 hov5 v0 q5
  go_wp2_with fail
  refine leaves_cons (f := 143) (args := #[.pointer (some ⟨b, 1, none⟩)]) (by simp) (by simp [go_sem]) ?_
  refine (unlock_deferred ⟨b, 1, none⟩ _ w5 (by rw [blk_cell H5.out.2.1]; rfl) (blk_frozen H5.out.2.1 1)).mono ?_
  rintro e u' w6 ⟨rfl, rfl, rfl⟩
  have hdone : Done w (w5.setCell ⟨b, 1, none⟩ (.int .i32 0)) b x tb tx n root D (fireAll w4 root ks).2 := by
    have ho6 : Only (fun k => k = b) w5 (w5.setCell ⟨b, 1, none⟩ (.int .i32 0)) := (Only.refl (fun k => k = b) w5).put b 1 (.inl rfl) _
    have hc6 : CellsOf w5 (fun t => t == 191) (fun k => k = b) := fun k e => by rw [e]; exact ⟨_, _, _, H5.out.2.1, rfl⟩
    refine ⟨⟨V, set_atG H5.out.2.1 1 _, (Below.heap_setCell _ _ _ V (Ne.symm H4.out.2.2.2.2.2)).trans H5.out.2.2⟩, ?_, fun c d hw => ?_, ⟨w4, ks, fun c d hw => H4.out.1.watch H4.out.2.1 rfl hw, H1.out.2.1, rfl⟩, fun B h1 h2 h3 h4 => ?_, ?_⟩
    · have f1 : FarP tAll w w4 := H4.out.2.2.1.mono (fun t h => by unfold tAll at h; unfold tXB; rw [Bool.or_eq_false_iff] at h; exact h.1)
      have f2 : FarP tAll w4 w5 := H5.out.1.farP.mono (fun t h => by unfold tAll at h; rw [Bool.or_eq_false_iff] at h; exact h.2)
      have f3 : FarP tAll w5 (w5.setCell ⟨b, 1, none⟩ (.int .i32 0)) := (ho6.farP hc6).mono (fun t h => by unfold tAll at h; rw [Bool.or_eq_false_iff, Bool.or_eq_false_iff] at h; exact h.1.2)
      exact (f1.trans f2).trans f3
    · have h5 := H5.out.1.watch c d (H4.out.1.watch H4.out.2.1 rfl hw)
      exact ⟨_, ho6.watch hc6 rfl h5⟩
    · have b1 := H4.out.1.below B h1 (fun k _ e => by rcases e with e | e <;> omega)
      have b2 := H5.out.1.below B (Nat.le_trans h1 H4.out.1.size) (fun c d _ hS => by
        obtain ⟨m, hm1, hm2⟩ := fireAll_mks w4 root ks c hS
        rw [← hm2]
        exact h4 m hm1)
      exact (b1.trans b2).trans (ho6.below B (Nat.le_trans (Nat.le_trans h1 H4.out.1.size) H5.out.1.size) (fun k _ e => by omega))
    · exact Nat.le_trans (Nat.le_trans H4.out.1.size H5.out.1.size) ho6.size
  simp [Leaves, settle, results, Try.results115, go_sem]
  exact hdone
end Go.Proofs.Ytjhgknagmiekeaa.G
set_option linter.unusedVariables false
set_option linter.unusedSimpArgs false
namespace Go.Proofs.Ytjhgknagmiekeaa.G
open Go.RowKit Go.Lib Go.Proofs Go.Conc Go.Maps
open Go.Proofs.YtjhgknagmiekeaaW.PrintWords hiding Kept
open Go.Proofs.YtjhgknagmiekeaaW.PrintLast
open Go.Proofs.Ytjhgknagmiekeaa.T (Nd NdAt ptr Tr L All valT wasV Lf Strs emptyN wayF wayF_none)
theorem mks_empty (nb : Nat) (m : Value) : mks (emptyN nb m) = [m] := by
  rw [mks_eq]
  rfl
theorem keys_one (e : DataW Unit) (s : List UInt8) : strKeys ((DataW.map [] : DataW Unit).put (.string s) e) = [s] := rfl
theorem fire_one (W : World) (nb c : Nat) (k : ByteArray) (h : WatchAt W (c + 1) c false) : (fireAll W (emptyN nb (ptr (c + 1))) [k]).2 = 1 := by
  obtain ⟨n, en⟩ : ∃ n, emptyN nb (ptr (c + 1)) = n := ⟨_, rfl⟩
  have hd : ∀ r, T.downN n r = none := fun r => by
    rw [← en]
    unfold T.downN
    split
    · rfl
    · rfl
  have hm : ∀ a, marksOn k n a = [c] := fun a => by
    rw [← en]
    unfold marksOn
    show _ :: (if a = k.size then [] else []) = _
    rw [ite_self]
    rfl
  have hs : ∀ (f a : Nat) (s : (Nat → Bool) × Int), wayF (stepW W k) k (f + 1) (some n) a s = shootC W s c := fun f a s => by
    rw [wayF, hd, wayF_none]
    unfold stepW
    rw [hm]
    rfl
  have e : fireAll W n [k] = shootC W (fun _ => false, 0) c := by
    unfold fireAll
    rw [List.foldl_cons, List.foldl_nil]
    unfold fireK
    have h2 : k.size + 2 = k.size + 1 + 1 := rfl
    rw [h2]
    exact hs (k.size + 1) 0 _
  rw [en]
  rw [e]
  show (if (shutAt W c || false) = true then (0 : Int) else wrap64 (0 + 1)) = 1
  rw [shutAt_of h]
  decide +kernel
set_option maxRecDepth 100000 in
set_option maxHeartbeats 4000000 in
theorem txnAlive (w : World) : Calls Try.prog 70 #[] w fun e w' => e = .returned (.bool true) ∧ Below w.heap.size w w' := by
  have q1 := Aside0.mk (newB w)
  go_enter Try.func70, Try.ntmps70
  unfold ptr at q1
  go_wp2_with fail
  go_at_call 111
  refine q1.out.mono ?_
  rintro e w1 ⟨b, v, tb, nb, c, rfl, hbA, htA, hwa, h1, h2, h3, hbel⟩
  obtain ⟨root, er⟩ : ∃ r, emptyN nb (ptr (c + 1)) = r := ⟨_, rfl⟩
  have ht : Tr w1 tb root := by rw [← er]; exact ⟨by rw [T.all_empty]; exact htA, T.fine_empty _ _, T.vals_empty _ _⟩
  have q2 := Aside0.mk (baseVersion w1 b v tb 0 false hbA)
  have q3 := Aside0.mk (beginFree w1 b v tb 0 hbA)
  have H1 := Aside0.mk (And.intro hbA (And.intro ht (And.intro hwa (And.intro h1 (And.intro h3 hbel)))))
  have HR := Aside0.mk er
  clear hbA htA hwa h1 h2 h3 hbel ht er q1
  unfold ptr at q2 q3
  go_wp2_with fail
  go_at_call 112
  refine q2.out.mono ?_
  rintro e w' ⟨rfl, hw⟩
  subst hw
  go_wp2_with fail
  go_at_call 113
  refine q3.out.mono ?_
  rintro e w2 ⟨x, mb, rfl, hb2, hx2, hm2, hxs, hms, hmx, ho2⟩
  have q4 := Aside0.mk (beginHeld w2 b v tb 0 hb2)
  have hc2 : CellsOf w' tXB (fun k => k = b) := fun k e => by rw [e]; exact ⟨_, _, _, H1.out.1.base, rfl⟩
  have hf2 := ho2.farP hc2
  have ht2 : Tr w2 tb root := hf2.tr rfl rfl rfl rfl H1.out.2.1
  have hw2 := ho2.watch hc2 rfl H1.out.2.2.1
  have hal : All root = [] := by rw [← HR.out]; exact T.all_empty _ _
  have q5 := Aside0.mk (txnSet w2 x b tb mb 0 _ root hx2 hm2 (by omega) ht2 ⟨#[97]⟩ 5 (by decide) (by rw [hal]; decide))
  have H2 := Aside0.mk (And.intro hb2 (And.intro hx2 (And.intro hm2 (And.intro ht2 (And.intro hw2 (And.intro hxs (And.intro hms ho2)))))))
  clear hb2 hx2 hm2 hxs hms hmx ho2 hc2 hf2 ht2 hw2 hal q2 q3
  unfold ptr at q4 q5
  go_wp2_with fail
  go_at_call 113
  refine q4.out.mono ?_
  rintro e w3 ⟨rfl, hw3⟩
  subst hw3
  go_wp2_with fail
  go_at_call 114
  refine q5.out.mono ?_
  rintro e w4 ⟨old, had, tx, root', cc, rfl, hx4, hm4, ht4, hv4, hl4, hmk4, ho4⟩
  obtain ⟨es, cl, hmo, -⟩ := id H2.out.2.2.1
  have hbx : b ≠ x := fun e => by
    have h1 := H2.out.1.base
    rw [e, H2.out.2.1] at h1
    cases h1
  have hbm : b ≠ mb := fun e => by
    have h1 := H2.out.1.base
    rw [e, hmo] at h1
    cases h1
  have hvx : v ≠ x := fun e => by
    have h1 := H2.out.1.ver
    rw [e, H2.out.2.1] at h1
    cases h1
  have hvm : v ≠ mb := fun e => by
    have h1 := H2.out.1.ver
    rw [e, hmo] at h1
    cases h1
  have hb4 : BaseAt w4 b v tb 0 true := ⟨ho4.at H2.out.1.base (fun e => by rcases e with e | e; exact hbm e; exact hbx e), ho4.at H2.out.1.ver (fun e => by rcases e with e | e; exact hvm e; exact hvx e)⟩
  have hf4 : FarP tXB w3 w4 := fun k cs t fr hk hq => ho4.at hk (fun e => by
    rcases e with e | e
    · rw [e, hmo] at hk; cases hk
    · rw [e, H2.out.2.1] at hk
      injection hk with e1
      injection e1 with _ e2 _
      rw [← e2] at hq
      cases hq)
  have htb4 : Tr w4 tb root := hf4.tr rfl rfl rfl rfl H2.out.2.2.2.1
  have hw4 : WatchAt w4 (c + 1) c false := ⟨hf4 _ _ _ _ H2.out.2.2.2.2.1.obj rfl, ho4.at H2.out.2.2.2.2.1.ch (fun e => by
    rcases e with e | e
    · have h1 := H2.out.2.2.2.2.1.ch
      rw [e, hmo] at h1
      cases h1
    · have h1 := H2.out.2.2.2.2.1.ch
      rw [e, H2.out.2.1] at h1
      cases h1)⟩
  have hmr : ∀ m ∈ mks root, m = ptr (c + 1) := fun m hm => by
    rw [← HR.out, mks_empty] at hm
    exact List.mem_singleton.1 hm
  have hM4 : Mks w4 root := fun m hm => ⟨c, false, hmr m hm, hw4⟩
  have hks := keys_one (.lit (.int .i64 cc)) (⟨#[97]⟩ : ByteArray).data.toList
  have q6 := Aside0.mk (txnCommit w4 x b v tb tx mb 1 0 _ root hb4 hx4 hm4 (by omega) htb4 hM4 (fun s hs => by rw [hks] at hs; rw [List.mem_singleton.1 hs]; decide) (by rw [hks]; simp) (by omega) (by omega))
  have hval : valT root' (L ⟨#[97]⟩) = some (.int .i64 5) := by rw [hv4, if_pos rfl]
  have H4 := Aside0.mk (And.intro hw4 (And.intro hks (And.intro ht4 (And.intro ho4 (And.intro hmr hval)))))
  clear hmo hbx hbm hvx hvm hb4 hf4 htb4 hw4 hmr hM4 hks hx4 hm4 ht4 hv4 hl4 hmk4 ho4 q4 q5 hval
  unfold ptr at q6
  go_wp2_with fail
  go_at_call 115
  refine q6.out.mono ?_
  rintro e w5 ⟨cnt, rfl, hD⟩
  have hcnt : cnt = 1 := by
    obtain ⟨W, ks, hW, hp, e⟩ := hD.count
    rw [H4.out.2.1] at hp
    have h1 := List.perm_singleton.1 hp
    obtain ⟨k, ek⟩ : ∃ k, ks = [k] := by
      cases ks with
      | nil => cases h1
      | cons k r =>
        cases r with
        | nil => exact ⟨k, rfl⟩
        | cons _ _ =>
          have h2 := congrArg List.length h1
          simp at h2
    rw [e, ek, ← HR.out]
    exact fire_one W nb c k (hW _ _ H4.out.1)
  subst hcnt
  obtain ⟨v5, hb5⟩ := hD.base
  have ht5 : Tr w5 tx root' := hD.far.tr rfl rfl rfl rfl H4.out.2.2.1
  have q7 := Aside0.mk (baseTree w5 b v5 tx _ false hb5)
  have q8 := Aside0.mk (baseVersion w5 b v5 tx _ false hb5)
  have q9 := T.getC w5 tx root' ht5 ⟨#[97]⟩ (by decide)
  rw [H4.out.2.2.2.2.2] at q9
  have Q9 := Aside0.mk q9
  have HD := Aside0.mk hD
  clear hD hb5 ht5 q9 q6
  have hB : Aside0 (Below w.heap.size w w5) := ⟨by
    have b2 := H2.out.2.2.2.2.2.2.2.below w.heap.size H1.out.2.2.2.2.2.size (fun k _ e => by rw [e]; exact H1.out.2.2.2.1)
    have s1 := H1.out.2.2.2.2.2.size
    have s2 := H2.out.2.2.2.2.2.2.2.size
    have b4 := H4.out.2.2.2.1.below w.heap.size (by omega) (fun k _ e => by
      have := H2.out.2.2.2.2.2.1
      have := H2.out.2.2.2.2.2.2.1
      rcases e with e | e <;> omega)
    have s4 := H4.out.2.2.2.1.size
    have b5 := HD.out.below w.heap.size (by omega) (by have := H2.out.2.2.2.2.2.1; omega) H1.out.2.2.2.1 (fun m hm => by
      rw [H4.out.2.2.2.2.1 m hm]
      exact H1.out.2.2.2.2.1)
    exact ((H1.out.2.2.2.2.2.trans b2).trans b4).trans b5⟩
  unfold ptr at q7 q8 Q9
  unfold T.gotV at Q9
  go_wp2_with fail
  go_at_call 116
  refine q7.out.mono ?_
  rintro e w6 ⟨rfl, hw6⟩
  subst hw6
  go_wp2_with fail
  go_at_call 112
  refine q8.out.mono ?_
  rintro e w7 ⟨rfl, hw7⟩
  subst hw7
  go_wp2_with fail
  go_at_call 35
  refine Q9.out.mono ?_
  rintro e w8 ⟨rfl, hb8⟩
  have HB8 := Aside0.mk hb8
  clear hb8 q7 q8 Q9
  go_wp2_with fail
  go_ret
  exact ⟨rfl, T.belowAt hB.out HB8.out⟩
set_option maxRecDepth 100000 in
theorem txnNames (w : World) : Calls Try.prog 19 #[] w fun e w' => e = .returned (.bool true) ∧ Below w.heap.size w w' := by
  have q := Aside0.mk (txnAlive w)
  go_enter Try.func19, Try.ntmps19
  go_wp2_with fail
  go_at_call 70
  refine q.out.mono ?_
  rintro e w1 ⟨rfl, hb⟩
  have HB := Aside0.mk hb
  clear hb q
  go_wp2_with fail
  go_ret
  exact ⟨rfl, HB.out⟩
end Go.Proofs.Ytjhgknagmiekeaa.G
