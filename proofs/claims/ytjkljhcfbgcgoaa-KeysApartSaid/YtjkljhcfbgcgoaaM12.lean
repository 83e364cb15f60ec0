-- Written by a program of this session (wip/tools/printfam.py) out of the translation; hand-proved contracts set in; joined by wip/tools/merge.py. Lean checks it.
import Derived.Test.YtjkljhcfbgcgoaaM0
import Derived.Test.YtjkljhcfbgcgoaaM2
import Derived.Test.YtjkljhcfbgcgoaaM8
import Derived.Test.YtjkljhcfbgcgoaaM9
section
namespace Go.Proofs.Ytjkljhcfbgcgoaa.K
open Go.RowKit Go.Proofs.YtjkljhcfbgcgoaaW.PrintWords Go.Proofs.YtjkljhcfbgcgoaaW.PrintLast Go.Proofs.YtjkljhcfbgcgoaaW.PrintMore
attribute [local go_sem] max2_int min2_int max_two min_two max_three min_three max_four min_four   -- for this text's walks alone
set_option linter.unusedVariables false
set_option linter.unusedSimpArgs false

/-! ### musterlaw01_KeysApart: function 12 -/
mutual
def musterlaw01_KeysApart.j0 : Nat → ByteArray → Bool → Option (Bool)
  | 0, _, _ => none
  | k + 1, x0, x38 => if x38 = true then (some false) else ((musterref01_Decode.f k x0).bind fun bt372 => ((keys_Decode.f k x0).bind fun bt376 => ((keys_Decode.f k x0).bind fun bt380 => (musterlaw01_KeysApart.l0 k x0 bt372.1 bt372.2 bt376.1 bt380.1 (bt376.1.length : Int) 0))))
def musterlaw01_KeysApart.l0 : Nat → ByteArray → List (S36) → Int → List (S36) → List (S36) → Int → Int → Option (Bool)
  | 0, _, _, _, _, _, _, _ => none
  | k + 1, x0, x6, x7, x8, x10, x55, x56 => if x56 < x55 then (if 0 ≤ x56 then (if x56 < (x8.length : Int) then (musterlaw01_KeysApart.l0 k x0 x6 x7 (x8.set (x56 : Int).toNat (⟨9, (⟨#[]⟩ : ByteArray), 1⟩ : S36)) x10 x55 (wrap64 (x56 + 1))) else (none)) else (none)) else (musterlaw01_KeysApart.l1 k x0 x6 x7 x8 x10 0)
def musterlaw01_KeysApart.l1 : Nat → ByteArray → List (S36) → Int → List (S36) → List (S36) → Int → Option (Bool)
  | 0, _, _, _, _, _, _ => none
  | k + 1, x0, x6, x7, x8, x10, x13 => if x13 < 16 then (if x8.length < 4398046511104 then (musterlaw01_KeysApart.l1 k x0 x6 x7 (x8 ++ [(⟨8, (⟨#[]⟩ : ByteArray), IntKind.u64.wrap (x13)⟩ : S36)]) x10 (wrap64 (x13 + 1))) else (none)) else ((musterref01_SameParts.f k x10 x6).bind fun t388 => (if t388 = true then ((keys_Decode.f k x0).bind fun bt389 => ((musterref01_SameParts.f k bt389.1 x6).bind fun t393 => (if t393 = true then (some (bt389.2 == x7)) else (some false)))) else (some false)))
end
def musterlaw01_KeysApart.f (k : Nat) (a0 : ByteArray) : Option (Bool) := (some (([(⟨1, (⟨#[113]⟩ : ByteArray), 0⟩ : S36), (⟨3, (⟨#[]⟩ : ByteArray), 1⟩ : S36), (⟨2, (⟨#[]⟩ : ByteArray), 77⟩ : S36)] : List (S36)) : List (S36))).bind fun y362 => (if 2 ≤ (y362.length : Int) then ((keys_Encode.f (y362.take 2)).bind fun bt369 => (if bt369.1.toList = ([1, 113, 0, 1, 3, 1] : List UInt8) then (if bt369.2 = 0 then (if 2 < (y362.length : Int) then (musterlaw01_KeysApart.j0 k a0 (((rd_T36 y362 2).f2) != 77)) else (none)) else (musterlaw01_KeysApart.j0 k a0 true)) else (musterlaw01_KeysApart.j0 k a0 true))) else (none))
theorem musterlaw01_KeysApart.mono_l : ∀ k, (∀ y0 y1, LeO (musterlaw01_KeysApart.j0 k y0 y1) (musterlaw01_KeysApart.j0 (k + 1) y0 y1)) ∧ (∀ y0 y1 y2 y3 y4 y5 y6, LeO (musterlaw01_KeysApart.l0 k y0 y1 y2 y3 y4 y5 y6) (musterlaw01_KeysApart.l0 (k + 1) y0 y1 y2 y3 y4 y5 y6)) ∧ (∀ y0 y1 y2 y3 y4 y5, LeO (musterlaw01_KeysApart.l1 k y0 y1 y2 y3 y4 y5) (musterlaw01_KeysApart.l1 (k + 1) y0 y1 y2 y3 y4 y5))
  | 0 => ⟨fun _ _ r h => by simp [musterlaw01_KeysApart.j0] at h, fun _ _ _ _ _ _ _ r h => by simp [musterlaw01_KeysApart.l0] at h, fun _ _ _ _ _ _ r h => by simp [musterlaw01_KeysApart.l1] at h⟩
  | k + 1 => by
    obtain ⟨ih0, ih1, ih2⟩ := musterlaw01_KeysApart.mono_l k
    refine ⟨?_, ?_, ?_⟩
    · intro y0 y1
      unfold musterlaw01_KeysApart.j0
      repeat' first
      | (with_reducible exact ih0 _ _)
      | (with_reducible exact ih1 _ _ _ _ _ _ _)
      | (with_reducible exact ih2 _ _ _ _ _ _)
      | (with_reducible exact keys_Decode.mono _ _)
      | (with_reducible exact musterref01_Decode.mono _ _)
      | (with_reducible exact musterref01_SameParts.mono _ _ _)
      | (with_reducible exact LeO.refl _)
      | (with_reducible exact LeO.none _)
      | (with_reducible refine LeO.ite ?_ ?_)
      | (with_reducible refine LeO.bind ?_ (fun _ => ?_))
      | exact ih0 _ _
      | exact ih1 _ _ _ _ _ _ _
      | exact ih2 _ _ _ _ _ _
      | exact keys_Decode.mono _ _
      | exact musterref01_Decode.mono _ _
      | exact musterref01_SameParts.mono _ _ _
      | exact LeO.none _
      | refine LeO.ite ?_ ?_
      | refine LeO.bind ?_ (fun _ => ?_)
    · intro y0 y1 y2 y3 y4 y5 y6
      unfold musterlaw01_KeysApart.l0
      repeat' first
      | (with_reducible exact ih0 _ _)
      | (with_reducible exact ih1 _ _ _ _ _ _ _)
      | (with_reducible exact ih2 _ _ _ _ _ _)
      | (with_reducible exact keys_Decode.mono _ _)
      | (with_reducible exact musterref01_Decode.mono _ _)
      | (with_reducible exact musterref01_SameParts.mono _ _ _)
      | (with_reducible exact LeO.refl _)
      | (with_reducible exact LeO.none _)
      | (with_reducible refine LeO.ite ?_ ?_)
      | (with_reducible refine LeO.bind ?_ (fun _ => ?_))
      | exact ih0 _ _
      | exact ih1 _ _ _ _ _ _ _
      | exact ih2 _ _ _ _ _ _
      | exact keys_Decode.mono _ _
      | exact musterref01_Decode.mono _ _
      | exact musterref01_SameParts.mono _ _ _
      | exact LeO.none _
      | refine LeO.ite ?_ ?_
      | refine LeO.bind ?_ (fun _ => ?_)
    · intro y0 y1 y2 y3 y4 y5
      unfold musterlaw01_KeysApart.l1
      repeat' first
      | (with_reducible exact ih0 _ _)
      | (with_reducible exact ih1 _ _ _ _ _ _ _)
      | (with_reducible exact ih2 _ _ _ _ _ _)
      | (with_reducible exact keys_Decode.mono _ _)
      | (with_reducible exact musterref01_Decode.mono _ _)
      | (with_reducible exact musterref01_SameParts.mono _ _ _)
      | (with_reducible exact LeO.refl _)
      | (with_reducible exact LeO.none _)
      | (with_reducible refine LeO.ite ?_ ?_)
      | (with_reducible refine LeO.bind ?_ (fun _ => ?_))
      | exact ih0 _ _
      | exact ih1 _ _ _ _ _ _ _
      | exact ih2 _ _ _ _ _ _
      | exact keys_Decode.mono _ _
      | exact musterref01_Decode.mono _ _
      | exact musterref01_SameParts.mono _ _ _
      | exact LeO.none _
      | refine LeO.ite ?_ ?_
      | refine LeO.bind ?_ (fun _ => ?_)
theorem musterlaw01_KeysApart.mono : ∀ a0 k, LeO (musterlaw01_KeysApart.f k a0) (musterlaw01_KeysApart.f (k + 1) a0) := by
  intro a0 k
  obtain ⟨ih0, ih1, ih2⟩ := musterlaw01_KeysApart.mono_l k
  unfold musterlaw01_KeysApart.f
  repeat' first
      | (with_reducible exact ih0 _ _)
      | (with_reducible exact ih1 _ _ _ _ _ _ _)
      | (with_reducible exact ih2 _ _ _ _ _ _)
      | (with_reducible exact keys_Decode.mono _ _)
      | (with_reducible exact musterref01_Decode.mono _ _)
      | (with_reducible exact musterref01_SameParts.mono _ _ _)
      | (with_reducible exact LeO.refl _)
      | (with_reducible exact LeO.none _)
      | (with_reducible refine LeO.ite ?_ ?_)
      | (with_reducible refine LeO.bind ?_ (fun _ => ?_))
      | exact ih0 _ _
      | exact ih1 _ _ _ _ _ _ _
      | exact ih2 _ _ _ _ _ _
      | exact keys_Decode.mono _ _
      | exact musterref01_Decode.mono _ _
      | exact musterref01_SameParts.mono _ _ _
      | exact LeO.none _
      | refine LeO.ite ?_ ?_
      | refine LeO.bind ?_ (fun _ => ?_)
set_option maxHeartbeats 8000000 in
set_option maxRecDepth 100000 in
theorem musterlaw01_KeysApart.calls (k : Nat) (a0 : ByteArray) (r : Bool) (w : World) (h : musterlaw01_KeysApart.f k a0 = some r) :
    Calls Try.prog 12 #[.string a0] w fun e w' => e = .returned (.bool r) ∧ Below w.heap.size w w' := by
  have hu36 := Try.underlying36
  have HB := Aside0.mk (Below.refl w.heap.size w)
  have H : ((some (([(⟨1, (⟨#[113]⟩ : ByteArray), 0⟩ : S36), (⟨3, (⟨#[]⟩ : ByteArray), 1⟩ : S36), (⟨2, (⟨#[]⟩ : ByteArray), 77⟩ : S36)] : List (S36)) : List (S36))).bind fun y362 => (if 2 ≤ (y362.length : Int) then ((keys_Encode.f (y362.take 2)).bind fun bt369 => (if bt369.1.toList = ([1, 113, 0, 1, 3, 1] : List UInt8) then (if bt369.2 = 0 then (if 2 < (y362.length : Int) then (musterlaw01_KeysApart.j0 k a0 (((rd_T36 y362 2).f2) != 77)) else (none)) else (musterlaw01_KeysApart.j0 k a0 true)) else (musterlaw01_KeysApart.j0 k a0 true))) else (none))) = some r := h
  clear h
  obtain ⟨y362, hy362⟩ : ∃ y_ : List (S36), y_ = (([(⟨1, (⟨#[113]⟩ : ByteArray), 0⟩ : S36), (⟨3, (⟨#[]⟩ : ByteArray), 1⟩ : S36), (⟨2, (⟨#[]⟩ : ByteArray), 77⟩ : S36)] : List (S36))) := ⟨_, rfl⟩
  replace H : (if 2 ≤ (y362.length : Int) then ((keys_Encode.f (y362.take 2)).bind fun bt369 => (if bt369.1.toList = ([1, 113, 0, 1, 3, 1] : List UInt8) then (if bt369.2 = 0 then (if 2 < (y362.length : Int) then (musterlaw01_KeysApart.j0 k a0 (((rd_T36 y362 2).f2) != 77)) else (none)) else (musterlaw01_KeysApart.j0 k a0 true)) else (musterlaw01_KeysApart.j0 k a0 true))) else (none)) = some r := by first | (rw [hy362]; with_reducible exact H) | (have H2_ := (Option.bind_some _ _).symm.trans H; rw [hy362]; with_reducible exact H2_) | (have H2_ := (Option.bind_some _ _).symm.trans H; with_reducible exact H2_) | with_reducible exact H | (rw [hy362]; exact H) | exact H
  have Ny362 := Aside0.mk hy362
  clear hy362
  by_cases c2 : 2 ≤ (y362.length : Int)
  · rw [if_pos c2] at H
    have c2b0 := eq_true c2
    have c2b1 : decide (2 ≤ (y362.length : Int)) = true := decide_eq_true c2
    clear c2
    obtain ⟨y365, hy365⟩ : ∃ y_ : List (S36), y_ = (y362.take 2) := ⟨_, rfl⟩
    replace H : ((keys_Encode.f y365).bind fun bt369 => (if bt369.1.toList = ([1, 113, 0, 1, 3, 1] : List UInt8) then (if bt369.2 = 0 then (if 2 < (y362.length : Int) then (musterlaw01_KeysApart.j0 k a0 (((rd_T36 y362 2).f2) != 77)) else (none)) else (musterlaw01_KeysApart.j0 k a0 true)) else (musterlaw01_KeysApart.j0 k a0 true))) = some r := by first | (rw [hy365]; with_reducible exact H) | (have H2_ := (Option.bind_some _ _).symm.trans H; rw [hy365]; with_reducible exact H2_) | (have H2_ := (Option.bind_some _ _).symm.trans H; with_reducible exact H2_) | with_reducible exact H | (rw [hy365]; exact H) | exact H
    have Ny365 := Aside0.mk hy365
    clear hy365
    replace H := Option.bind_eq_some_iff.mp H
    obtain ⟨⟨t369, t370⟩, A30, H⟩ := H
    replace H : (if t369.toList = ([1, 113, 0, 1, 3, 1] : List UInt8) then (if t370 = 0 then (if 2 < (y362.length : Int) then (musterlaw01_KeysApart.j0 k a0 (((rd_T36 y362 2).f2) != 77)) else (none)) else (musterlaw01_KeysApart.j0 k a0 true)) else (musterlaw01_KeysApart.j0 k a0 true)) = some r := H
    have A3 := Aside0.mk A30
    clear A30
    have HC4 := Aside0.mk H
    clear H
    go_enter Try.func12, Try.ntmps12
    go_upto_region 3 with (first | ((with_reducible refine gate_dst (N := 19) rfl ?_); refine Kd.R_lit k36 _ 36 ?hg (N := 19) ?hd (xs := ([(⟨1, (⟨#[113]⟩ : ByteArray), 0⟩ : S36), (⟨3, (⟨#[]⟩ : ByteArray), 1⟩ : S36), (⟨2, (⟨#[]⟩ : ByteArray), 77⟩ : S36)] : List (S36))) (inner := [.int .i64 1, .string (⟨#[113]⟩ : ByteArray), .int .u64 0, .int .i64 3, .string (⟨#[]⟩ : ByteArray), .int .u64 1, .int .i64 2, .string (⟨#[]⟩ : ByteArray), .int .u64 77]) (ok := fun _ => True) (okp := fun _ => True) ?hr ?hp (fun _ hk => hk) trivial (Below.refl _ _) (Nat.le_refl _) (by simp) ?_; (case hd => rfl); (case hg => rfl); (case hr => first | (go_simp; done) | (go_simp; rfl)); (case hp => exact (Reps.c3 (show Kd.M k36 _ _ _ (⟨1, (⟨#[113]⟩ : ByteArray), 0⟩ : S36) [.int .i64 1, .string (⟨#[113]⟩ : ByteArray), .int .u64 0] from (k36_mkM _ _ _ (⟨1, (⟨#[113]⟩ : ByteArray), 0⟩ : S36) )) (Reps.c3 (show Kd.M k36 _ _ _ (⟨3, (⟨#[]⟩ : ByteArray), 1⟩ : S36) [.int .i64 3, .string (⟨#[]⟩ : ByteArray), .int .u64 1] from (k36_mkM _ _ _ (⟨3, (⟨#[]⟩ : ByteArray), 1⟩ : S36) )) (Reps.c3 (show Kd.M k36 _ _ _ (⟨2, (⟨#[]⟩ : ByteArray), 77⟩ : S36) [.int .i64 2, .string (⟨#[]⟩ : ByteArray), .int .u64 77] from (k36_mkM _ _ _ (⟨2, (⟨#[]⟩ : ByteArray), 77⟩ : S36) )) (Reps.none _ _))))); intro v363 w5 ho6 hb hg_ hnew_; clear hg_ hnew_; (first | rw [← Ny362.out] at ho6 | (simp only [Int.reduceToNat] at ho6; rw [← Ny362.out] at ho6)); have n0_ := Aside0.mk (Kd.R_lower ho6 (below_size (by repeat (first | (with_reducible first | exact HB.out | apply below_alloc | apply pw_below_drewN | apply below_drew1) | exact HB.out)))); have n1_ := Aside0.mk (below_step (by repeat (first | (with_reducible first | exact HB.out | apply below_alloc | apply pw_below_drewN | apply below_drew1) | exact HB.out)) hb); clear HB; have HO364 := n0_; have HB := n1_; clear n0_ n1_; clear hb ho6; obtain ⟨Ao8, co8, eo8⟩ := Kd.R_slice HO364.out; subst eo8; have q7 : (2 : Int) ≤ ((y362.length : Int) : Int) := of_decide_eq_true (by first | (with_reducible assumption) | assumption); obtain ⟨i07, hi07, _, hsz7, _⟩ := info_parts info36; have hroom7 : y362.length ≤ co8 := (Kd.R_reads' HO364.out).2.1; have hC7 : Kd.C k36 _ Ao8 y362.length y362 := (Kd.R_reads' HO364.out).2.2; have hcut7 := cut_to (P := Try.prog) 26 36 .i64 Try.underlying26 hi07 Ao8 y362.length co8 2 (by omega) q7 hroom7; have hr7 := Kd.C_take (m := 2) hC7 (by omega); have hy7 : y365.length = (2 : Int).toNat := (by rw [Ny365.out, List.length_take]; omega); rw [← Ny365.out] at hr7; rw [← hy7] at hcut7; have HR368 := Aside0.mk hr7; have HC368 := Aside0.mk (show y365.length ≤ co8 from by omega); clear hr7 hC7 hroom7 hi07 hsz7; have KY7 := Aside0.mk hy7; clear hy7; have KL7 := Aside0.mk (show 2 ≤ y362.length from by omega); replace q7 := eq_true q7) | ((with_reducible refine gate_callee (f := 18) rfl ?_); refine goesL_ (some 23) rfl rfl Try.func18 (by kernel_rfl) rfl #[.slice Ao8 y365.length co8] rfl (by (try simp only [List.map_toArray, List.map_cons, List.map_nil]); first | done | rfl | (simp only [List.length_drop, List.length_take]; rfl)) ?_; (with_reducible refine (keys_Encode.calls _ _ y365 t369 t370 _ ?side1 ?side2 A3.out).mono ?_); (case side1 => repeat (first | exact (by repeat (first | (with_reducible exact HR368.out) | (with_reducible refine Kd.C_alloc ?_ _) | (with_reducible refine Kd.C_drewN ?_ _) | (with_reducible refine Kd.C_drew ?_) | exact HR368.out)) | (with_reducible refine Kd.C_alloc ?_ _) | (with_reducible refine Kd.C_drewN ?_ _) | (with_reducible refine Kd.C_drew ?_))); (case side2 => exact HC368.out); rintro e w9 ⟨rfl, hb⟩; refine ⟨_, rfl, ?_⟩; have n0_ := Aside0.mk (Kd.R_below (by (with_reducible repeat (first | apply Kd.R_alloc | apply Kd.R_drewN | apply Kd.R_drew)); exact HO364.out) hb); have n1_ := Aside0.mk (Kd.C_below (by repeat (first | (with_reducible exact HR368.out) | (with_reducible refine Kd.C_alloc ?_ _) | (with_reducible refine Kd.C_drewN ?_ _) | (with_reducible refine Kd.C_drew ?_) | exact HR368.out)) hb); have n2_ := Aside0.mk (below_step (by repeat (first | (with_reducible first | exact HB.out | apply below_alloc | apply pw_below_drewN | apply below_drew1) | exact HB.out)) hb); clear HO364; clear HR368; clear HB; have HO364 := n0_; have HR368 := n1_; have HB := n2_; clear n0_ n1_ n2_; (try clear hb); (try clear hb2); (try clear hk); (try clear hi)))
    (try simp only [Act.put, List.setIfInBounds_toArray, List.set_cons_zero, List.set_cons_succ])
    go_cut [38] (fun v38 wc => ∃ (kq : Nat) (x38_3 : Bool), v38 = .bool x38_3 ∧ Aside0 (musterlaw01_KeysApart.j0 kq a0 x38_3 = some r) ∧ Aside0 (kq ≤ k) ∧ Aside0 (Kd.C k36 wc Ao8 y365.length y365) ∧ Aside0 (Below w.heap.size w wc))
    case first =>
      have H := HC4.out
      clear HC4
      by_cases c10 : t369.toList = ([1, 113, 0, 1, 3, 1] : List UInt8)
      · rw [if_pos c10] at H
        have c10b0 : (t369.toList == ([1, 113, 0, 1, 3, 1] : List UInt8)) = true := beq_iff_eq.mpr c10
        have c10b1 : (t369.toList != ([1, 113, 0, 1, 3, 1] : List UInt8)) = false := bne_eq_false_iff_eq.mpr c10
        clear c10
        (first | rw [c10b0] | (simp only [i64_w, i32_w]; rw [c10b0]) | skip)
        by_cases c11 : t370 = 0
        · rw [if_pos c11] at H
          have c11b0 : (t370 == 0) = true := beq_iff_eq.mpr c11
          have c11b1 : (t370 != 0) = false := bne_eq_false_iff_eq.mpr c11
          clear c11
          by_cases c12 : 2 < (y362.length : Int)
          · rw [if_pos c12] at H
            have c12b0 : decide (2 < (y362.length : Int)) = true := decide_eq_true c12
            have c12b1 : decide (2 < y362.length) = true := decide_eq_true (by omega)
            clear c12
            have H' := Aside0.mk H
            clear H
            have p371 : 0 ≤ (2 : Int) := (by omega)
            have q371 : 2 < (y362.length : Int) := of_decide_eq_true (by first | (with_reducible assumption) | assumption)
            obtain ⟨ad371, e371, hx371_0, hx371_1, hx371_2⟩ := at_T36 (Kd.R_reads' HO364.out).2.2 2 p371 q371
            cases e371
            (try simp only [show (2 : Int).toNat = 2 from rfl, Nat.reduceMul, Nat.reduceEqDiff, Go.Addr.add, ↓reduceIte] at hx371_0)
            (try simp only [show (2 : Int).toNat = 2 from rfl, Nat.reduceMul, Nat.reduceEqDiff, Go.Addr.add, ↓reduceIte] at hx371_1)
            (try simp only [show (2 : Int).toNat = 2 from rfl, Nat.reduceMul, Nat.reduceEqDiff, Go.Addr.add, ↓reduceIte] at hx371_2)
            have qi371 : (2 < y362.length) = True := eq_true (by omega)
            (try rw [show ((2 : Int)).toNat = 2 from rfl] at hx371_0)
            (try rw [show 2 * 3 = 6 from rfl] at hx371_0)
            (try rw [show ((2 : Int)).toNat = 2 from rfl] at hx371_1)
            (try rw [show 2 * 3 = 6 from rfl] at hx371_1)
            (try rw [show ((2 : Int)).toNat = 2 from rfl] at hx371_2)
            (try rw [show 2 * 3 = 6 from rfl] at hx371_2)
            replace p371 := eq_true p371
            replace q371 := eq_true q371
            go_wp2
            go_meet
            case rel => exact ⟨_, ((((rd_T36 y362 2).f2) != 77)), (by first | rfl | (simp; done) | (simp [*]; done)), H', ⟨by first | omega | exact Nat.le_refl _⟩, ⟨by repeat (first | (with_reducible exact HR368.out) | (with_reducible refine Kd.C_alloc ?_ _) | (with_reducible refine Kd.C_drewN ?_ _) | (with_reducible refine Kd.C_drew ?_) | exact HR368.out)⟩, ⟨by repeat (first | (with_reducible first | exact HB.out | apply below_alloc | apply pw_below_drewN | apply below_drew1) | exact HB.out)⟩⟩
          · rw [if_neg c12] at H
            exact absurd H (by simp)
        · rw [if_neg c11] at H
          have c11b0 : (t370 == 0) = false := beq_eq_false_iff_ne.mpr c11
          have c11b1 : (t370 != 0) = true := bne_iff_ne.mpr c11
          have H' := Aside0.mk H
          clear H
          go_wp2
          go_meet
          case rel => exact ⟨_, (true), (by first | rfl | (simp; done) | (simp [*]; done)), H', ⟨by first | omega | exact Nat.le_refl _⟩, ⟨by repeat (first | (with_reducible exact HR368.out) | (with_reducible refine Kd.C_alloc ?_ _) | (with_reducible refine Kd.C_drewN ?_ _) | (with_reducible refine Kd.C_drew ?_) | exact HR368.out)⟩, ⟨by repeat (first | (with_reducible first | exact HB.out | apply below_alloc | apply pw_below_drewN | apply below_drew1) | exact HB.out)⟩⟩
      · rw [if_neg c10] at H
        have c10b0 : (t369.toList == ([1, 113, 0, 1, 3, 1] : List UInt8)) = false := beq_eq_false_iff_ne.mpr c10
        have c10b1 : (t369.toList != ([1, 113, 0, 1, 3, 1] : List UInt8)) = true := bne_iff_ne.mpr c10
        (first | rw [c10b0] | (simp only [i64_w, i32_w]; rw [c10b0]) | skip)
        have H' := Aside0.mk H
        clear H
        go_wp2
        go_meet
        case rel => exact ⟨_, (true), (by first | rfl | (simp; done) | (simp [*]; done)), H', ⟨by first | omega | exact Nat.le_refl _⟩, ⟨by repeat (first | (with_reducible exact HR368.out) | (with_reducible refine Kd.C_alloc ?_ _) | (with_reducible refine Kd.C_drewN ?_ _) | (with_reducible refine Kd.C_drew ?_) | exact HR368.out)⟩, ⟨by repeat (first | (with_reducible first | exact HB.out | apply below_alloc | apply pw_below_drewN | apply below_drew1) | exact HB.out)⟩⟩
    case rest =>
      clear HC4
      try clear c1
      try clear c2
      try clear c2b0
      try clear c2b1
      try clear p2
      try clear c3
      try clear p3
      try clear q3
      try clear hx3
      try clear qi3
      try clear q7
      try clear c10
      try clear c10b0
      try clear c10b1
      try clear c11
      try clear c11b0
      try clear c11b1
      try clear c12
      try clear c12b0
      try clear c12b1
      try clear hx371_0
      try clear hx371_1
      try clear hx371_2
      try clear p371
      try clear q371
      try clear q7
      obtain ⟨kq, x38_3, rfl, HA, HJ3, HR368, HB⟩ := hcut
      cases kq with
      | zero => exact absurd HA.out (by simp [musterlaw01_KeysApart.j0])
      | succ kj3 =>
        have H := HA.out
        clear HA
        simp only [musterlaw01_KeysApart.j0] at H
        by_cases c13 : x38_3 = true
        · subst c13
          have H1 : (some false) = some r := by rw [if_pos rfl] at H; exact H
          clear H
          have H := H1
          clear H1
          obtain rfl := Option.some.inj H
          go_wp2
          go_ret
          exact ⟨by first | rfl | (simp [errW_none, errW_some] <;> rfl) | (simp [*, errW_none, errW_some] <;> rfl), by repeat (first | (with_reducible first | exact HB.out | apply below_alloc | apply pw_below_drewN | apply below_drew1) | exact HB.out)⟩
        · replace c13 := Bool.eq_false_iff.mpr c13
          subst c13
          have H1 : ((musterref01_Decode.f kj3 a0).bind fun bt372 => ((keys_Decode.f kj3 a0).bind fun bt376 => ((keys_Decode.f kj3 a0).bind fun bt380 => (musterlaw01_KeysApart.l0 kj3 a0 bt372.1 bt372.2 bt376.1 bt380.1 (bt376.1.length : Int) 0)))) = some r := by rw [if_neg (show ¬ (false = true) by decide)] at H; exact H
          clear H
          have H := H1
          clear H1
          replace H := Option.bind_eq_some_iff.mp H
          obtain ⟨⟨t372, t373⟩, A140, H⟩ := H
          replace H : ((keys_Decode.f kj3 a0).bind fun bt376 => ((keys_Decode.f kj3 a0).bind fun bt380 => (musterlaw01_KeysApart.l0 kj3 a0 t372 t373 bt376.1 bt380.1 (bt376.1.length : Int) 0))) = some r := H
          have A14 := Aside0.mk A140
          clear A140
          replace H := Option.bind_eq_some_iff.mp H
          obtain ⟨⟨t376, t377⟩, A150, H⟩ := H
          replace H : ((keys_Decode.f kj3 a0).bind fun bt380 => (musterlaw01_KeysApart.l0 kj3 a0 t372 t373 t376 bt380.1 (t376.length : Int) 0)) = some r := H
          have A15 := Aside0.mk A150
          clear A150
          replace H := Option.bind_eq_some_iff.mp H
          obtain ⟨⟨t380, t381⟩, A160, H⟩ := H
          replace H : (musterlaw01_KeysApart.l0 kj3 a0 t372 t373 t376 t380 (t376.length : Int) 0) = some r := H
          have A16 := Aside0.mk A160
          clear A160
          have H' := Aside0.mk H
          clear H
          go_wp2_with (first | ((with_reducible refine gate_callee (f := 24) rfl ?_); refine goesL_ (some 41) rfl rfl Try.func24 (by kernel_rfl) rfl #[.string a0] rfl (by (try simp only [List.map_toArray, List.map_cons, List.map_nil]); first | done | rfl | (simp only [List.length_drop, List.length_take]; rfl)) ?_; (with_reducible refine (musterref01_Decode.calls kj3 a0 t372 t373 _ A14.out).mono ?_); rintro e w17 ⟨v374, rfl, ho0, hb⟩; refine ⟨_, rfl, ?_⟩; have n0_ := Aside0.mk (Kd.R_lower ho0 (below_size (by repeat (first | (with_reducible first | exact HB.out | apply below_alloc | apply pw_below_drewN | apply below_drew1) | exact HB.out)))); have n1_ := Aside0.mk (Kd.C_below (by repeat (first | (with_reducible exact HR368.out) | (with_reducible refine Kd.C_alloc ?_ _) | (with_reducible refine Kd.C_drewN ?_ _) | (with_reducible refine Kd.C_drew ?_) | exact HR368.out)) hb); have n2_ := Aside0.mk (below_step (by repeat (first | (with_reducible first | exact HB.out | apply below_alloc | apply pw_below_drewN | apply below_drew1) | exact HB.out)) hb); clear HR368; clear HB; have HO375 := n0_; have HR368 := n1_; have HB := n2_; clear n0_ n1_ n2_; (try clear hb); (try clear hb2); (try clear hk); (try clear hi); (try clear ho0)) | ((with_reducible refine gate_callee (f := 25) rfl ?_); refine goesL_ (some 46) rfl rfl Try.func25 (by kernel_rfl) rfl #[.string a0] rfl (by (try simp only [List.map_toArray, List.map_cons, List.map_nil]); first | done | rfl | (simp only [List.length_drop, List.length_take]; rfl)) ?_; (with_reducible refine (keys_Decode.calls kj3 a0 t376 t377 _ A15.out).mono ?_); rintro e w18 ⟨v378, rfl, ho0, hb⟩; refine ⟨_, rfl, ?_⟩; have n0_ := Aside0.mk (Kd.R_elder' (by (with_reducible repeat (first | apply Kd.R_alloc | apply Kd.R_drewN | apply Kd.R_drew)); exact HO375.out) (Kd.R_base ho0) hb); have n1_ := Aside0.mk (Kd.R_lower (Kd.R_new' ho0 (Kd.R_lt (by (with_reducible repeat (first | apply Kd.R_alloc | apply Kd.R_drewN | apply Kd.R_drew)); exact HO375.out))) (below_size (by repeat (first | (with_reducible first | exact HB.out | apply below_alloc | apply pw_below_drewN | apply below_drew1) | exact HB.out)))); have n2_ := Aside0.mk (Kd.C_below (by repeat (first | (with_reducible exact HR368.out) | (with_reducible refine Kd.C_alloc ?_ _) | (with_reducible refine Kd.C_drewN ?_ _) | (with_reducible refine Kd.C_drew ?_) | exact HR368.out)) hb); have n3_ := Aside0.mk (below_step (by repeat (first | (with_reducible first | exact HB.out | apply below_alloc | apply pw_below_drewN | apply below_drew1) | exact HB.out)) hb); clear HO375; clear HR368; clear HB; have HO375 := n0_; have HO379 := n1_; have HR368 := n2_; have HB := n3_; clear n0_ n1_ n2_ n3_; (try clear hb); (try clear hb2); (try clear hk); (try clear hi); (try clear ho0)) | ((with_reducible refine gate_callee (f := 25) rfl ?_); refine goesL_ (some 51) rfl rfl Try.func25 (by kernel_rfl) rfl #[.string a0] rfl (by (try simp only [List.map_toArray, List.map_cons, List.map_nil]); first | done | rfl | (simp only [List.length_drop, List.length_take]; rfl)) ?_; (with_reducible refine (keys_Decode.calls kj3 a0 t380 t381 _ A16.out).mono ?_); rintro e w19 ⟨v382, rfl, ho0, hb⟩; refine ⟨_, rfl, ?_⟩; have n0_ := Aside0.mk (Kd.R_elder' (by (with_reducible repeat (first | apply Kd.R_alloc | apply Kd.R_drewN | apply Kd.R_drew)); exact HO375.out) (Kd.R_base ho0) hb); have n1_ := Aside0.mk (Kd.R_elder' (by (with_reducible repeat (first | apply Kd.R_alloc | apply Kd.R_drewN | apply Kd.R_drew)); exact HO379.out) (Kd.R_base ho0) hb); have n2_ := Aside0.mk (Kd.R_lower (Kd.R_new' (Kd.R_new' ho0 (Kd.R_lt (by (with_reducible repeat (first | apply Kd.R_alloc | apply Kd.R_drewN | apply Kd.R_drew)); exact HO375.out))) (Kd.R_lt (by (with_reducible repeat (first | apply Kd.R_alloc | apply Kd.R_drewN | apply Kd.R_drew)); exact HO379.out))) (below_size (by repeat (first | (with_reducible first | exact HB.out | apply below_alloc | apply pw_below_drewN | apply below_drew1) | exact HB.out)))); have n3_ := Aside0.mk (Kd.C_below (by repeat (first | (with_reducible exact HR368.out) | (with_reducible refine Kd.C_alloc ?_ _) | (with_reducible refine Kd.C_drewN ?_ _) | (with_reducible refine Kd.C_drew ?_) | exact HR368.out)) hb); have n4_ := Aside0.mk (below_step (by repeat (first | (with_reducible first | exact HB.out | apply below_alloc | apply pw_below_drewN | apply below_drew1) | exact HB.out)) hb); clear HO375; clear HO379; clear HR368; clear HB; have HO375 := n0_; have HO379 := n1_; have HO383 := n2_; have HR368 := n3_; have HB := n4_; clear n0_ n1_ n2_ n3_ n4_; (try clear hb); (try clear hb2); (try clear hk); (try clear hi); (try clear ho0); obtain ⟨Ao20, co20, eo20⟩ := Kd.R_slice HO379.out; subst eo20))
          go_loopg [56] kj3 (fun kq v56 w' => ∃ (x8_2 : List (S36)) (x56_2 : Int), v56 = .int .i64 x56_2 ∧ Aside0 (musterlaw01_KeysApart.l0 kq a0 t372 t373 x8_2 t380 (t376.length : Int) x56_2 = some r) ∧ Aside0 (kq ≤ kj3) ∧ Aside0 (Kd.R k36 36 w' w.heap.size (fun k_ => some k_ ≠ ((.slice Ao20 t376.length co20) : Value).ownBlock ∧ some k_ ≠ (v382 : Value).ownBlock) v374 t372) ∧ Aside0 (Kd.R k36 36 w' w.heap.size (fun k_ => some k_ ≠ (v374 : Value).ownBlock ∧ some k_ ≠ (v382 : Value).ownBlock) (.slice Ao20 t376.length co20) x8_2) ∧ Aside0 (Kd.R k36 36 w' w.heap.size (fun k_ => some k_ ≠ (v374 : Value).ownBlock ∧ some k_ ≠ ((.slice Ao20 t376.length co20) : Value).ownBlock) v382 t380) ∧ Aside0 (Below w.heap.size w w'))
          case atStart => exact ⟨(t376), (0), (by first | rfl | (simp; done) | (simp [*]; done)), H', ⟨Nat.le_refl _⟩, ⟨by (with_reducible repeat (first | apply Kd.R_alloc | apply Kd.R_drewN | apply Kd.R_drew)); exact Kd.R_mono HO375.out (fun _ hk => ⟨hk.1.2, hk.2⟩)⟩, ⟨by (with_reducible repeat (first | apply Kd.R_alloc | apply Kd.R_drewN | apply Kd.R_drew)); exact Kd.R_mono HO379.out (fun _ hk => ⟨hk.1.2, hk.2⟩)⟩, ⟨by (with_reducible repeat (first | apply Kd.R_alloc | apply Kd.R_drewN | apply Kd.R_drew)); exact Kd.R_mono HO383.out (fun _ hk => ⟨hk.1.2, hk.2⟩)⟩, ⟨by repeat (first | (with_reducible first | exact HB.out | apply below_alloc | apply pw_below_drewN | apply below_drew1) | exact HB.out)⟩⟩
          case round =>
            clear H'
            try clear c1
            try clear c2
            try clear c2b0
            try clear c2b1
            try clear p2
            try clear c3
            try clear p3
            try clear q3
            try clear hx3
            try clear qi3
            try clear q7
            try clear c10
            try clear c10b0
            try clear c10b1
            try clear c11
            try clear c11b0
            try clear c11b1
            try clear c12
            try clear c12b0
            try clear c12b1
            try clear c13
            try clear c18
            try clear hx371_0
            try clear hx371_1
            try clear hx371_2
            try clear p2
            try clear p3
            try clear p371
            try clear q3
            try clear q371
            try clear q7
            obtain ⟨x8_2, x56_2, rfl, HA, HK2, HO_6, HO_8, HO_10, HB⟩ := hrel
            have hl8_2 := (Kd.R_reads' HO_8.out).1
            rw [hl8_2] at HO_8
            (try simp only [hl8_2])
            (try simp only [hl8_2] at HO_6)
            (try simp only [hl8_2] at HO_10)
            cases gk with
            | zero => exact absurd HA.out (by simp [musterlaw01_KeysApart.l0])
            | succ k2 =>
              have H := HA.out
              clear HA
              simp only [musterlaw01_KeysApart.l0] at H
              by_cases c21 : x56_2 < (t376.length : Int)
              · rw [if_pos c21] at H
                have c21b0 : decide (x56_2 < (t376.length : Int)) = true := decide_eq_true c21
                clear c21
                by_cases c22 : 0 ≤ x56_2
                · rw [if_pos c22] at H
                  have c22b0 : decide (0 ≤ x56_2) = true := decide_eq_true c22
                  clear c22
                  by_cases c23 : x56_2 < (x8_2.length : Int)
                  · rw [if_pos c23] at H
                    have c23b0 : decide (x56_2 < (x8_2.length : Int)) = true := decide_eq_true c23
                    clear c23
                    obtain ⟨y384, hy384⟩ : ∃ y_ : List (S36), y_ = (x8_2.set (x56_2 : Int).toNat (⟨9, (⟨#[]⟩ : ByteArray), 1⟩ : S36)) := ⟨_, rfl⟩
                    replace H : (musterlaw01_KeysApart.l0 k2 a0 t372 t373 y384 t380 (t376.length : Int) (wrap64 (x56_2 + 1))) = some r := by first | (rw [hy384]; with_reducible exact H) | (have H2_ := (Option.bind_some _ _).symm.trans H; rw [hy384]; with_reducible exact H2_) | (have H2_ := (Option.bind_some _ _).symm.trans H; with_reducible exact H2_) | with_reducible exact H | (rw [hy384]; exact H) | exact H
                    have Ny384 := Aside0.mk hy384
                    clear hy384
                    have H' := Aside0.mk H
                    clear H
                    have p24 : 0 ≤ (x56_2 : Int) := of_decide_eq_true (by first | (with_reducible assumption) | assumption)
                    have q24 : (x56_2 : Int) < ((x8_2.length : Int) : Int) := of_decide_eq_true (by first | (with_reducible assumption) | assumption)
                    obtain ⟨go24, co24, eo24, gb24, gl24, cl24, HG24⟩ := Kd.R_form HO_8.out (by omega)
                    (first | cases eo24 | (injection eo24 with ea_ en_ ec_; (first | subst ea_ | (injection ea_ with ea_; subst ea_)); subst ec_; clear en_))
                    have GB24 := Aside0.mk gb24
                    have GG24 := Aside0.mk HG24
                    clear gb24 gl24 HG24
                    obtain ⟨ce24, hcl24, hM24, hcc24, hfr24⟩ := Kd.R_elem HO_8.out z36 (x56_2 : Int) p24 q24
                    obtain rfl := k36_openM hM24
                    have hx24_0 : wr.cell? ⟨go24, (x56_2 : Int).toNat * 3, none⟩ = some (.int .i64 ((rd_T36 x8_2 x56_2).f0)) := hcc24 0 _ rfl
                    have hx24_1 : wr.cell? ⟨go24, (x56_2 : Int).toNat * 3 + 1, none⟩ = some (.string ((rd_T36 x8_2 x56_2).f1)) := hcc24 1 _ rfl
                    have hx24_2 : wr.cell? ⟨go24, (x56_2 : Int).toNat * 3 + 2, none⟩ = some (.int .u64 ((rd_T36 x8_2 x56_2).f2)) := hcc24 2 _ rfl
                    have hf24_0 : wr.frozen? ⟨go24, (x56_2 : Int).toNat * 3, none⟩ = false := hfr24 0
                    have hf24_1 : wr.frozen? ⟨go24, (x56_2 : Int).toNat * 3 + 1, none⟩ = false := hfr24 1
                    have hf24_2 : wr.frozen? ⟨go24, (x56_2 : Int).toNat * 3 + 2, none⟩ = false := hfr24 2
                    clear hcl24 hcc24 hfr24 hM24
                    replace p24 := eq_true p24
                    replace q24 := eq_true q24
                    have HX25 := Aside0.mk (show Kd.R k36 36 wr w.heap.size (fun k_ => some k_ ≠ (v374 : Value).ownBlock ∧ some k_ ≠ (v382 : Value).ownBlock) (.slice (some ⟨go24, 0, none⟩) x8_2.length co20) x8_2 from (by (with_reducible repeat (first | apply Kd.R_alloc | apply Kd.R_drewN | apply Kd.R_drew)); exact HO_8.out))
                    obtain ⟨ce25, hcl25, hM25, hcc25, hfr25⟩ := Kd.R_elem HX25.out z36 (x56_2 : Int) (of_decide_eq_true (by first | (with_reducible assumption) | assumption)) (by have h_ : (x56_2 : Int) < ((x8_2.length : Int) : Int) := of_decide_eq_true (by first | (with_reducible assumption) | assumption); first | exact h_ | (have e_ := (Kd.R_reads' HO_8.out).1; omega) | simpa using h_)
                    obtain rfl := k36_openM hM25
                    have HP25 := Kd.R_seg HX25.out (x56_2 : Int) (of_decide_eq_true (by first | (with_reducible assumption) | assumption)) (by have h_ : (x56_2 : Int) < ((x8_2.length : Int) : Int) := of_decide_eq_true (by first | (with_reducible assumption) | assumption); first | exact h_ | (have e_ := (Kd.R_reads' HO_8.out).1; omega) | simpa using h_) (seg := [.int .i64 9, .string (⟨#[]⟩ : ByteArray), .int .u64 1]) (j := 0) hcl25 hcc25 (show 3 ≤ 3 from by decide) (x' := (⟨9, (⟨#[]⟩ : ByteArray), 1⟩ : S36)) (k36_mkM _ _ _ (⟨9, (⟨#[]⟩ : ByteArray), 1⟩ : S36) ) (fun _ hk => hk)
                    have hx25_0 := hcc25 0 _ rfl
                    (try simp only [show (k36).sz = 3 from rfl, Nat.mul_one, Nat.add_zero] at hx25_0)
                    have hf25_0 := hfr25 0
                    (try simp only [show (k36).sz = 3 from rfl, Nat.mul_one, Nat.add_zero] at hf25_0)
                    have hx25_1 := hcc25 1 _ rfl
                    (try simp only [show (k36).sz = 3 from rfl, Nat.mul_one, Nat.add_zero] at hx25_1)
                    have hf25_1 := hfr25 1
                    (try simp only [show (k36).sz = 3 from rfl, Nat.mul_one, Nat.add_zero] at hf25_1)
                    have hx25_2 := hcc25 2 _ rfl
                    (try simp only [show (k36).sz = 3 from rfl, Nat.mul_one, Nat.add_zero] at hx25_2)
                    have hf25_2 := hfr25 2
                    (try simp only [show (k36).sz = 3 from rfl, Nat.mul_one, Nat.add_zero] at hf25_2)
                    clear hcl25 hcc25 hfr25 hM25
                    go_wp2_with (first | ((with_reducible refine gate_store (t := 36) (p := 62) rfl ?_); refine store_event (t := 36) (p := 62) (v := ?vo_w26) (w1 := (((wr.setCell ⟨go24, (x56_2 : Int).toNat * 3, none⟩ (.int .i64 9)).setCell ⟨go24, (x56_2 : Int).toNat * 3 + 1, none⟩ (.string (⟨#[]⟩ : ByteArray))).setCell ⟨go24, (x56_2 : Int).toNat * 3 + 2, none⟩ (.int .u64 1))) ?hg ?ho ?hn ?hr ?_; (case ho => rfl); (case hg => rfl); (case hn => rfl); (case hr => first | (go_simp; done) | (go_simp; rfl)); intro w26 hw; have hg : wr.grownBy w26 (some go24) := (by rw [hw]; exact HP25.2); have hp_ : Kd.R k36 36 w26 w.heap.size (fun k_ => some k_ ≠ (v374 : Value).ownBlock ∧ some k_ ≠ (v382 : Value).ownBlock) (.slice (some ⟨go24, 0, none⟩) x8_2.length co20) y384 := (by rw [hw, Ny384.out]; exact HP25.1); clear HP25; have n0_ := Aside0.mk (Kd.R_after (v := (.slice (some ⟨go24, 0, none⟩) x8_2.length co20)) (v1 := (.slice (some ⟨go24, 0, none⟩) x8_2.length co20)) (ok := (fun k_ => some k_ ≠ (v382 : Value).ownBlock)) (by (with_reducible repeat (first | apply Kd.R_alloc | apply Kd.R_drewN | apply Kd.R_drew)); exact Kd.R_mono HO_6.out (fun _ hk => ⟨hk.2, hk.1⟩)) hg (.inl rfl)); have n1_ := Aside0.mk (hp_); have n2_ := Aside0.mk (Kd.R_after (v := (.slice (some ⟨go24, 0, none⟩) x8_2.length co20)) (v1 := (.slice (some ⟨go24, 0, none⟩) x8_2.length co20)) (ok := (fun k_ => some k_ ≠ (v374 : Value).ownBlock)) (by (with_reducible repeat (first | apply Kd.R_alloc | apply Kd.R_drewN | apply Kd.R_drew)); exact HO_10.out) hg (.inl rfl)); have n3_ := Aside0.mk ((by rw [hw]; exact below_set (below_set (below_set (HB.out) GB24.out) GB24.out) GB24.out : Below w.heap.size w w26)); clear HO_6; clear HO_8; clear HO_10; clear HB; have HO_6 := n0_; have HO_8 := n1_; have HO_10 := n2_; have HB := n3_; clear n0_ n1_ n2_ n3_; clear hg hw hp_))
                    (try simp only [← hl8_2])
                    go_roundg k2
                    case measure => have := HJ3.out; have := HK2.out; omega
                    case rel => exact ⟨(y384), (wrap64 (x56_2 + 1)), (by first | rfl | (simp; done) | (simp [*]; done)), H', ⟨by have := HJ3.out; have := HK2.out; omega⟩, ⟨by (try simp only [hl8_2]); (with_reducible repeat (first | apply Kd.R_alloc | apply Kd.R_drewN | apply Kd.R_drew)); exact Kd.R_mono HO_6.out (fun _ hk => ⟨hk.2, hk.1⟩)⟩, ⟨by (try simp only [hl8_2]); (with_reducible repeat (first | apply Kd.R_alloc | apply Kd.R_drewN | apply Kd.R_drew)); exact HO_8.out⟩, ⟨by (try simp only [hl8_2]); (with_reducible repeat (first | apply Kd.R_alloc | apply Kd.R_drewN | apply Kd.R_drew)); exact HO_10.out⟩, ⟨by repeat (first | (with_reducible first | exact HB.out | apply below_alloc | apply pw_below_drewN | apply below_drew1) | exact HB.out)⟩⟩
                  · rw [if_neg c23] at H
                    exact absurd H (by simp)
                · rw [if_neg c22] at H
                  exact absurd H (by simp)
              · rw [if_neg c21] at H
                have c21b0 : decide (x56_2 < (t376.length : Int)) = false := decide_eq_false c21
                try (have c21b9 := c21b0; rw [hl8_2] at c21b9)
                clear c21
                have H' := Aside0.mk H
                clear H
                go_wp2
                go_loopg [8, 13] k2 (fun kq v8 v13 w' => ∃ (x8_3 : List (S36)) (x13_3 : Int), v13 = .int .i64 x13_3 ∧ Aside0 (musterlaw01_KeysApart.l1 kq a0 t372 t373 x8_3 t380 x13_3 = some r) ∧ Aside0 (kq ≤ k2) ∧ Aside0 (Kd.R k36 36 w' w.heap.size (fun k_ => some k_ ≠ (v8 : Value).ownBlock ∧ some k_ ≠ (v382 : Value).ownBlock) v374 t372) ∧ Aside0 (Kd.R k36 36 w' w.heap.size (fun k_ => some k_ ≠ (v374 : Value).ownBlock ∧ some k_ ≠ (v382 : Value).ownBlock) v8 x8_3) ∧ Aside0 (Kd.R k36 36 w' w.heap.size (fun k_ => some k_ ≠ (v374 : Value).ownBlock ∧ some k_ ≠ (v8 : Value).ownBlock) v382 t380) ∧ Aside0 (Below w.heap.size w w'))
                case atStart => exact ⟨(x8_2), (0), (by first | rfl | (simp; done) | (simp [*]; done)), H', ⟨Nat.le_refl _⟩, ⟨by (try simp only [hl8_2]); (with_reducible repeat (first | apply Kd.R_alloc | apply Kd.R_drewN | apply Kd.R_drew)); exact HO_6.out⟩, ⟨by (try simp only [hl8_2]); (with_reducible repeat (first | apply Kd.R_alloc | apply Kd.R_drewN | apply Kd.R_drew)); exact HO_8.out⟩, ⟨by (try simp only [hl8_2]); (with_reducible repeat (first | apply Kd.R_alloc | apply Kd.R_drewN | apply Kd.R_drew)); exact HO_10.out⟩, ⟨by repeat (first | (with_reducible first | exact HB.out | apply below_alloc | apply pw_below_drewN | apply below_drew1) | exact HB.out)⟩⟩
                case round =>
                  clear H'
                  try clear c1
                  try clear c2
                  try clear c2b0
                  try clear c2b1
                  try clear p2
                  try clear q2
                  try clear hx2
                  try clear hf2
                  try clear c3
                  try clear p3
                  try clear q3
                  try clear hx3
                  try clear qi3
                  try clear p6
                  try clear q7
                  try clear c10
                  try clear c10b0
                  try clear c10b1
                  try clear c11
                  try clear c11b0
                  try clear c11b1
                  try clear c12
                  try clear c12b0
                  try clear c12b1
                  try clear c13
                  try clear c18
                  try clear c21
                  try clear c21b0
                  try clear c22
                  try clear c22b0
                  try clear c23
                  try clear c23b0
                  try clear c24
                  try clear p24
                  try clear q24
                  try clear hx24
                  try clear hf24
                  try clear c25
                  try clear hx25
                  try clear hf25
                  try clear hx24_0
                  try clear hx24_1
                  try clear hx24_2
                  try clear hx25_0
                  try clear hx25_1
                  try clear hx25_2
                  try clear hx371_0
                  try clear hx371_1
                  try clear hx371_2
                  try clear p2
                  try clear p24
                  try clear p3
                  try clear p371
                  try clear q24
                  try clear q3
                  try clear q371
                  try clear q7
                  obtain ⟨x8_3, x13_3, rfl, HA, HK3, HO_6, HO_8, HO_10, HB⟩ := hrel
                  cases gk with
                  | zero => exact absurd HA.out (by simp [musterlaw01_KeysApart.l1])
                  | succ k3 =>
                    have H := HA.out
                    clear HA
                    simp only [musterlaw01_KeysApart.l1] at H
                    by_cases c27 : x13_3 < 16
                    · rw [if_pos c27] at H
                      have c27b0 : decide (x13_3 < 16) = true := decide_eq_true c27
                      clear c27
                      by_cases c28 : x8_3.length < 4398046511104
                      · rw [if_pos c28] at H
                        have LMc28 := Aside0.mk c28
                        clear c28
                        obtain ⟨y385, hy385⟩ : ∃ y_ : List (S36), y_ = (x8_3 ++ [(⟨8, (⟨#[]⟩ : ByteArray), IntKind.u64.wrap (x13_3)⟩ : S36)]) := ⟨_, rfl⟩
                        replace H : (musterlaw01_KeysApart.l1 k3 a0 t372 t373 y385 t380 (wrap64 (x13_3 + 1))) = some r := by first | (rw [hy385]; with_reducible exact H) | (have H2_ := (Option.bind_some _ _).symm.trans H; rw [hy385]; with_reducible exact H2_) | (have H2_ := (Option.bind_some _ _).symm.trans H; with_reducible exact H2_) | with_reducible exact H | (rw [hy385]; exact H) | exact H
                        have Ny385 := Aside0.mk hy385
                        clear hy385
                        have H' := Aside0.mk H
                        clear H
                        go_wp2_with (first | ((with_reducible refine gate_builtin (b := .append) (xs := #[.tmp 68, .tmp 72]) rfl ?_); at_builtin; refine Kd.R_append k36 (w0 := w) w.heap.size rfl (.tmp 68) (.tmp 72) 26 36 (.agg #[(.int .i64 0), (.string ⟨#[]⟩), (.int .u64 0)]) 32 rfl Try.underlying26 info36 rfl (by decide) (by omega) u8 x8_3 (⟨8, (⟨#[]⟩ : ByteArray), IntKind.u64.wrap (x13_3)⟩ : S36) [.int .i64 8, .string (⟨#[]⟩ : ByteArray), .int .u64 (IntKind.u64.wrap (x13_3))] (fun k_ => some k_ ≠ (v374 : Value).ownBlock ∧ some k_ ≠ (v382 : Value).ownBlock) (fun _ => False) rfl rfl ?aP (fun _ hk => hk.elim) ?aF ?aO ?aB ?aS ?aL ?_; (case aP => exact k36_mkM _ _ _ (⟨8, (⟨#[]⟩ : ByteArray), IntKind.u64.wrap (x13_3)⟩ : S36)); (case aB => exact (by repeat (first | (with_reducible first | exact HB.out | apply below_alloc | apply pw_below_drewN | apply below_drew1) | exact HB.out))); (case aF => exact (fun k_ hk => ⟨Kd.fresh' (Kd.R_lt (by (with_reducible repeat (first | apply Kd.R_alloc | apply Kd.R_drewN | apply Kd.R_drew)); exact HO_6.out)) k_ hk, Kd.fresh' (Kd.R_lt (by (with_reducible repeat (first | apply Kd.R_alloc | apply Kd.R_drewN | apply Kd.R_drew)); exact HO_10.out)) k_ hk⟩)); (case aO => exact (by (with_reducible repeat (first | apply Kd.R_alloc | apply Kd.R_drewN | apply Kd.R_drew)); exact HO_8.out)); (case aS => exact (below_size (by repeat (first | (with_reducible first | exact HB.out | apply below_alloc | apply pw_below_drewN | apply below_drew1) | exact HB.out)))); (case aL => have := LMc28.out; omega); intro v386 w29 ho hb hg hat; rw [← Ny385.out] at ho; have n0_ := Aside0.mk (Kd.R_after (ok := (fun k_ => some k_ ≠ (v382 : Value).ownBlock)) (by (with_reducible repeat (first | apply Kd.R_alloc | apply Kd.R_drewN | apply Kd.R_drew)); exact Kd.R_mono HO_6.out (fun _ hk => ⟨hk.2, hk.1⟩)) hg hat); have n1_ := Aside0.mk (Kd.R_after (ok := (fun k_ => some k_ ≠ (v374 : Value).ownBlock)) (by (with_reducible repeat (first | apply Kd.R_alloc | apply Kd.R_drewN | apply Kd.R_drew)); exact HO_10.out) hg hat); have n2_ := Aside0.mk (hb); have n3_ := Aside0.mk (ho); clear HO_6; clear HO_10; clear HB; clear HO_8; have HO_6 := n0_; have HO_10 := n1_; have HB := n2_; have HO387 := n3_; clear n0_ n1_ n2_ n3_; clear ho hb hg hat))
                        go_roundg k3
                        case measure => have := HJ3.out; have := HK2.out; have := HK3.out; omega
                        case rel => exact ⟨(y385), (wrap64 (x13_3 + 1)), (by first | rfl | (simp; done) | (simp [*]; done)), H', ⟨by have := HJ3.out; have := HK2.out; have := HK3.out; omega⟩, ⟨by (try simp only [hl8_2]); (with_reducible repeat (first | apply Kd.R_alloc | apply Kd.R_drewN | apply Kd.R_drew)); exact Kd.R_mono HO_6.out (fun _ hk => ⟨hk.2, hk.1⟩)⟩, ⟨by (try simp only [hl8_2]); (with_reducible repeat (first | apply Kd.R_alloc | apply Kd.R_drewN | apply Kd.R_drew)); exact HO387.out⟩, ⟨by (try simp only [hl8_2]); (with_reducible repeat (first | apply Kd.R_alloc | apply Kd.R_drewN | apply Kd.R_drew)); exact HO_10.out⟩, ⟨by repeat (first | (with_reducible first | exact HB.out | apply below_alloc | apply pw_below_drewN | apply below_drew1) | exact HB.out)⟩⟩
                      · rw [if_neg c28] at H
                        exact absurd H (by simp)
                    · rw [if_neg c27] at H
                      have c27b0 : decide (x13_3 < 16) = false := decide_eq_false c27
                      clear c27
                      replace H := Option.bind_eq_some_iff.mp H
                      obtain ⟨t388, A300, H⟩ := H
                      replace H : (if t388 = true then ((keys_Decode.f k3 a0).bind fun bt389 => ((musterref01_SameParts.f k3 bt389.1 t372).bind fun t393 => (if t393 = true then (some (bt389.2 == t373)) else (some false)))) else (some false)) = some r := H
                      have A30 := Aside0.mk A300
                      clear A300
                      by_cases c31 : t388 = true
                      · subst c31
                        have H1 : ((keys_Decode.f k3 a0).bind fun bt389 => ((musterref01_SameParts.f k3 bt389.1 t372).bind fun t393 => (if t393 = true then (some (bt389.2 == t373)) else (some false)))) = some r := by rw [if_pos rfl] at H; exact H
                        clear H
                        have H := H1
                        clear H1
                        replace H := Option.bind_eq_some_iff.mp H
                        obtain ⟨⟨t389, t390⟩, A320, H⟩ := H
                        replace H : ((musterref01_SameParts.f k3 t389 t372).bind fun t393 => (if t393 = true then (some (t390 == t373)) else (some false))) = some r := H
                        have A32 := Aside0.mk A320
                        clear A320
                        replace H := Option.bind_eq_some_iff.mp H
                        obtain ⟨t393, A330, H⟩ := H
                        replace H : (if t393 = true then (some (t390 == t373)) else (some false)) = some r := H
                        have A33 := Aside0.mk A330
                        clear A330
                        by_cases c34 : t393 = true
                        · subst c34
                          have H1 : (some (t390 == t373)) = some r := by rw [if_pos rfl] at H; exact H
                          clear H
                          have H := H1
                          clear H1
                          obtain rfl := Option.some.inj H
                          obtain ⟨Ao35, co35, eo35⟩ := Kd.R_slice HO_10.out
                          subst eo35
                          obtain ⟨Ao36, co36, eo36⟩ := Kd.R_slice HO_6.out
                          subst eo36
                          go_wp2_with (first | ((with_reducible refine gate_callee (f := 21) rfl ?_); refine goesL_ (some 76) rfl rfl Try.func21 (by kernel_rfl) rfl #[.slice Ao35 t380.length co35, .slice Ao36 t372.length co36] rfl (by (try simp only [List.map_toArray, List.map_cons, List.map_nil]); first | done | rfl | (simp only [List.length_drop, List.length_take]; rfl)) ?_; (with_reducible refine (musterref01_SameParts.calls k3 _ _ t380 _ _ t372 true _ ?side1 ?side2 ?side3 ?side4 A30.out).mono ?_); (case side1 => repeat (first | exact (Kd.R_reads' HO_10.out).2.2 | (with_reducible refine Kd.C_alloc ?_ _) | (with_reducible refine Kd.C_drewN ?_ _) | (with_reducible refine Kd.C_drew ?_))); (case side2 => exact (Kd.R_reads' HO_10.out).2.1); (case side3 => repeat (first | exact (Kd.R_reads' HO_6.out).2.2 | (with_reducible refine Kd.C_alloc ?_ _) | (with_reducible refine Kd.C_drewN ?_ _) | (with_reducible refine Kd.C_drew ?_))); (case side4 => exact (Kd.R_reads' HO_6.out).2.1); rintro e w' ⟨rfl, ⟨nd, rfl⟩⟩; refine ⟨_, rfl, ?_⟩) | ((with_reducible refine gate_callee (f := 25) rfl ?_); refine goesL_ (some 80) rfl rfl Try.func25 (by kernel_rfl) rfl #[.string a0] rfl (by (try simp only [List.map_toArray, List.map_cons, List.map_nil]); first | done | rfl | (simp only [List.length_drop, List.length_take]; rfl)) ?_; (with_reducible refine (keys_Decode.calls k3 a0 t389 t390 _ A32.out).mono ?_); rintro e w37 ⟨v391, rfl, ho0, hb⟩; refine ⟨_, rfl, ?_⟩; have n0_ := Aside0.mk (Kd.R_elder' (by (with_reducible repeat (first | apply Kd.R_alloc | apply Kd.R_drewN | apply Kd.R_drew)); exact HO_6.out) (Kd.R_base ho0) hb); have n1_ := Aside0.mk (Kd.R_elder' (by (with_reducible repeat (first | apply Kd.R_alloc | apply Kd.R_drewN | apply Kd.R_drew)); exact HO_8.out) (Kd.R_base ho0) hb); have n2_ := Aside0.mk (Kd.R_elder' (by (with_reducible repeat (first | apply Kd.R_alloc | apply Kd.R_drewN | apply Kd.R_drew)); exact HO_10.out) (Kd.R_base ho0) hb); have n3_ := Aside0.mk (Kd.R_lower (Kd.R_new' (Kd.R_new' (Kd.R_new' ho0 (Kd.R_lt (by (with_reducible repeat (first | apply Kd.R_alloc | apply Kd.R_drewN | apply Kd.R_drew)); exact HO_6.out))) (Kd.R_lt (by (with_reducible repeat (first | apply Kd.R_alloc | apply Kd.R_drewN | apply Kd.R_drew)); exact HO_8.out))) (Kd.R_lt (by (with_reducible repeat (first | apply Kd.R_alloc | apply Kd.R_drewN | apply Kd.R_drew)); exact HO_10.out))) (below_size (by repeat (first | (with_reducible first | exact HB.out | apply below_alloc | apply pw_below_drewN | apply below_drew1) | exact HB.out)))); have n4_ := Aside0.mk (below_step (by repeat (first | (with_reducible first | exact HB.out | apply below_alloc | apply pw_below_drewN | apply below_drew1) | exact HB.out)) hb); clear HO_6; clear HO_8; clear HO_10; clear HB; have HO_6 := n0_; have HO_8 := n1_; have HO_10 := n2_; have HO392 := n3_; have HB := n4_; clear n0_ n1_ n2_ n3_ n4_; (try clear hb); (try clear hb2); (try clear hk); (try clear hi); (try clear ho0); obtain ⟨Ao38, co38, eo38⟩ := Kd.R_slice HO392.out; subst eo38) | ((with_reducible refine gate_callee (f := 21) rfl ?_); refine goesL_ (some 85) rfl rfl Try.func21 (by kernel_rfl) rfl #[.slice Ao38 t389.length co38, .slice Ao36 t372.length co36] rfl (by (try simp only [List.map_toArray, List.map_cons, List.map_nil]); first | done | rfl | (simp only [List.length_drop, List.length_take]; rfl)) ?_; (with_reducible refine (musterref01_SameParts.calls k3 _ _ t389 _ _ t372 true _ ?side1 ?side2 ?side3 ?side4 A33.out).mono ?_); (case side1 => repeat (first | exact (Kd.R_reads' HO392.out).2.2 | (with_reducible refine Kd.C_alloc ?_ _) | (with_reducible refine Kd.C_drewN ?_ _) | (with_reducible refine Kd.C_drew ?_))); (case side2 => exact (Kd.R_reads' HO392.out).2.1); (case side3 => repeat (first | exact (Kd.R_reads' HO_6.out).2.2 | (with_reducible refine Kd.C_alloc ?_ _) | (with_reducible refine Kd.C_drewN ?_ _) | (with_reducible refine Kd.C_drew ?_))); (case side4 => exact (Kd.R_reads' HO_6.out).2.1); rintro e w' ⟨rfl, ⟨nd, rfl⟩⟩; refine ⟨_, rfl, ?_⟩))
                          go_ret
                          exact ⟨by first | rfl | (simp [errW_none, errW_some] <;> rfl) | (simp [*, errW_none, errW_some] <;> rfl), by repeat (first | (with_reducible first | exact HB.out | apply below_alloc | apply pw_below_drewN | apply below_drew1) | exact HB.out)⟩
                        · replace c34 := Bool.eq_false_iff.mpr c34
                          subst c34
                          have H1 : (some false) = some r := by rw [if_neg (show ¬ (false = true) by decide)] at H; exact H
                          clear H
                          have H := H1
                          clear H1
                          obtain rfl := Option.some.inj H
                          obtain ⟨Ao39, co39, eo39⟩ := Kd.R_slice HO_10.out
                          subst eo39
                          obtain ⟨Ao40, co40, eo40⟩ := Kd.R_slice HO_6.out
                          subst eo40
                          go_wp2_with (first | ((with_reducible refine gate_callee (f := 21) rfl ?_); refine goesL_ (some 76) rfl rfl Try.func21 (by kernel_rfl) rfl #[.slice Ao39 t380.length co39, .slice Ao40 t372.length co40] rfl (by (try simp only [List.map_toArray, List.map_cons, List.map_nil]); first | done | rfl | (simp only [List.length_drop, List.length_take]; rfl)) ?_; (with_reducible refine (musterref01_SameParts.calls k3 _ _ t380 _ _ t372 true _ ?side1 ?side2 ?side3 ?side4 A30.out).mono ?_); (case side1 => repeat (first | exact (Kd.R_reads' HO_10.out).2.2 | (with_reducible refine Kd.C_alloc ?_ _) | (with_reducible refine Kd.C_drewN ?_ _) | (with_reducible refine Kd.C_drew ?_))); (case side2 => exact (Kd.R_reads' HO_10.out).2.1); (case side3 => repeat (first | exact (Kd.R_reads' HO_6.out).2.2 | (with_reducible refine Kd.C_alloc ?_ _) | (with_reducible refine Kd.C_drewN ?_ _) | (with_reducible refine Kd.C_drew ?_))); (case side4 => exact (Kd.R_reads' HO_6.out).2.1); rintro e w' ⟨rfl, ⟨nd, rfl⟩⟩; refine ⟨_, rfl, ?_⟩) | ((with_reducible refine gate_callee (f := 25) rfl ?_); refine goesL_ (some 80) rfl rfl Try.func25 (by kernel_rfl) rfl #[.string a0] rfl (by (try simp only [List.map_toArray, List.map_cons, List.map_nil]); first | done | rfl | (simp only [List.length_drop, List.length_take]; rfl)) ?_; (with_reducible refine (keys_Decode.calls k3 a0 t389 t390 _ A32.out).mono ?_); rintro e w41 ⟨v391, rfl, ho0, hb⟩; refine ⟨_, rfl, ?_⟩; have n0_ := Aside0.mk (Kd.R_elder' (by (with_reducible repeat (first | apply Kd.R_alloc | apply Kd.R_drewN | apply Kd.R_drew)); exact HO_6.out) (Kd.R_base ho0) hb); have n1_ := Aside0.mk (Kd.R_elder' (by (with_reducible repeat (first | apply Kd.R_alloc | apply Kd.R_drewN | apply Kd.R_drew)); exact HO_8.out) (Kd.R_base ho0) hb); have n2_ := Aside0.mk (Kd.R_elder' (by (with_reducible repeat (first | apply Kd.R_alloc | apply Kd.R_drewN | apply Kd.R_drew)); exact HO_10.out) (Kd.R_base ho0) hb); have n3_ := Aside0.mk (Kd.R_lower (Kd.R_new' (Kd.R_new' (Kd.R_new' ho0 (Kd.R_lt (by (with_reducible repeat (first | apply Kd.R_alloc | apply Kd.R_drewN | apply Kd.R_drew)); exact HO_6.out))) (Kd.R_lt (by (with_reducible repeat (first | apply Kd.R_alloc | apply Kd.R_drewN | apply Kd.R_drew)); exact HO_8.out))) (Kd.R_lt (by (with_reducible repeat (first | apply Kd.R_alloc | apply Kd.R_drewN | apply Kd.R_drew)); exact HO_10.out))) (below_size (by repeat (first | (with_reducible first | exact HB.out | apply below_alloc | apply pw_below_drewN | apply below_drew1) | exact HB.out)))); have n4_ := Aside0.mk (below_step (by repeat (first | (with_reducible first | exact HB.out | apply below_alloc | apply pw_below_drewN | apply below_drew1) | exact HB.out)) hb); clear HO_6; clear HO_8; clear HO_10; clear HB; have HO_6 := n0_; have HO_8 := n1_; have HO_10 := n2_; have HO392 := n3_; have HB := n4_; clear n0_ n1_ n2_ n3_ n4_; (try clear hb); (try clear hb2); (try clear hk); (try clear hi); (try clear ho0); obtain ⟨Ao42, co42, eo42⟩ := Kd.R_slice HO392.out; subst eo42) | ((with_reducible refine gate_callee (f := 21) rfl ?_); refine goesL_ (some 85) rfl rfl Try.func21 (by kernel_rfl) rfl #[.slice Ao42 t389.length co42, .slice Ao40 t372.length co40] rfl (by (try simp only [List.map_toArray, List.map_cons, List.map_nil]); first | done | rfl | (simp only [List.length_drop, List.length_take]; rfl)) ?_; (with_reducible refine (musterref01_SameParts.calls k3 _ _ t389 _ _ t372 false _ ?side1 ?side2 ?side3 ?side4 A33.out).mono ?_); (case side1 => repeat (first | exact (Kd.R_reads' HO392.out).2.2 | (with_reducible refine Kd.C_alloc ?_ _) | (with_reducible refine Kd.C_drewN ?_ _) | (with_reducible refine Kd.C_drew ?_))); (case side2 => exact (Kd.R_reads' HO392.out).2.1); (case side3 => repeat (first | exact (Kd.R_reads' HO_6.out).2.2 | (with_reducible refine Kd.C_alloc ?_ _) | (with_reducible refine Kd.C_drewN ?_ _) | (with_reducible refine Kd.C_drew ?_))); (case side4 => exact (Kd.R_reads' HO_6.out).2.1); rintro e w' ⟨rfl, ⟨nd, rfl⟩⟩; refine ⟨_, rfl, ?_⟩))
                          go_ret
                          exact ⟨by first | rfl | (simp [errW_none, errW_some] <;> rfl) | (simp [*, errW_none, errW_some] <;> rfl), by repeat (first | (with_reducible first | exact HB.out | apply below_alloc | apply pw_below_drewN | apply below_drew1) | exact HB.out)⟩
                      · replace c31 := Bool.eq_false_iff.mpr c31
                        subst c31
                        have H1 : (some false) = some r := by rw [if_neg (show ¬ (false = true) by decide)] at H; exact H
                        clear H
                        have H := H1
                        clear H1
                        obtain rfl := Option.some.inj H
                        obtain ⟨Ao43, co43, eo43⟩ := Kd.R_slice HO_10.out
                        subst eo43
                        obtain ⟨Ao44, co44, eo44⟩ := Kd.R_slice HO_6.out
                        subst eo44
                        go_wp2_with (first | ((with_reducible refine gate_callee (f := 21) rfl ?_); refine goesL_ (some 76) rfl rfl Try.func21 (by kernel_rfl) rfl #[.slice Ao43 t380.length co43, .slice Ao44 t372.length co44] rfl (by (try simp only [List.map_toArray, List.map_cons, List.map_nil]); first | done | rfl | (simp only [List.length_drop, List.length_take]; rfl)) ?_; (with_reducible refine (musterref01_SameParts.calls k3 _ _ t380 _ _ t372 false _ ?side1 ?side2 ?side3 ?side4 A30.out).mono ?_); (case side1 => repeat (first | exact (Kd.R_reads' HO_10.out).2.2 | (with_reducible refine Kd.C_alloc ?_ _) | (with_reducible refine Kd.C_drewN ?_ _) | (with_reducible refine Kd.C_drew ?_))); (case side2 => exact (Kd.R_reads' HO_10.out).2.1); (case side3 => repeat (first | exact (Kd.R_reads' HO_6.out).2.2 | (with_reducible refine Kd.C_alloc ?_ _) | (with_reducible refine Kd.C_drewN ?_ _) | (with_reducible refine Kd.C_drew ?_))); (case side4 => exact (Kd.R_reads' HO_6.out).2.1); rintro e w' ⟨rfl, ⟨nd, rfl⟩⟩; refine ⟨_, rfl, ?_⟩))
                        go_ret
                        exact ⟨by first | rfl | (simp [errW_none, errW_some] <;> rfl) | (simp [*, errW_none, errW_some] <;> rfl), by repeat (first | (with_reducible first | exact HB.out | apply below_alloc | apply pw_below_drewN | apply below_drew1) | exact HB.out)⟩
  · rw [if_neg c2] at H
    exact absurd H (by simp)

/-- THE ONE PURE STATEMENT of musterlaw01_KeysApart: yours. -/
def musterlaw01_KeysApart.Pure : Prop := ∀ (a0 : ByteArray), a0.size ≤ 140737488351232 → ∃ k, musterlaw01_KeysApart.f k a0 = some true
theorem musterlaw01_KeysApart.walk (P : musterlaw01_KeysApart.Pure) (a0 : ByteArray) (w : World) (w0 : a0.size ≤ 140737488351232) :
    Calls Try.prog 12 #[.string a0] w fun e w' => e = .returned (.bool true) ∧ Below w.heap.size w w' := by
  obtain ⟨k, h⟩ := P a0 w0
  refine (musterlaw01_KeysApart.calls k a0 true w h).mono ?_
  rintro e w' ⟨rfl, hd⟩
  exact ⟨rfl, hd⟩

end Go.Proofs.Ytjkljhcfbgcgoaa.K
end
