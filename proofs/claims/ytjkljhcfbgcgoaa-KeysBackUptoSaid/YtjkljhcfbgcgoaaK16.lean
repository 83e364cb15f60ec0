-- Written by a program of this session (wip/tools/printfam.py) out of the translation; hand-proved contracts set in. Lean checks it.
import Derived.Test.YtjkljhcfbgcgoaaK0
import Derived.Test.YtjkljhcfbgcgoaaK15
namespace Go.Proofs.Ytjkljhcfbgcgoaa.K
open Go.RowKit Go.Proofs.YtjkljhcfbgcgoaaW.PrintWords Go.Proofs.YtjkljhcfbgcgoaaW.PrintLast Go.Proofs.YtjkljhcfbgcgoaaW.PrintMore
attribute [local go_sem] max2_int min2_int max_two min_two max_three min_three max_four min_four   -- for this text's walks alone
set_option linter.unusedVariables false
set_option linter.unusedSimpArgs false

/-! ### musterlaw01_keysFixed: function 16 -/
def musterlaw01_keysFixed.f  : Option (Bool) := (keys_Encode.f (([(⟨1, (⟨#[97, 0]⟩ : ByteArray), 0⟩ : S36), (⟨2, (⟨#[]⟩ : ByteArray), 258⟩ : S36)] : List (S36)))).bind fun bt114 => (if bt114.1.toList = ([1, 97, 0, 255, 0, 1, 2, 0, 0, 0, 0, 0, 0, 1, 2] : List UInt8) then (some (bt114.2 == 0)) else (some false))
set_option maxHeartbeats 8000000 in
set_option maxRecDepth 100000 in
theorem musterlaw01_keysFixed.calls  (r : Bool) (w : World) (h : musterlaw01_keysFixed.f  = some r) :
    Calls Try.prog 16 #[] w fun e w' => e = .returned (.bool r) ∧ Below w.heap.size w w' := by
  have hu36 := Try.underlying36
  have HB := Aside0.mk (Below.refl w.heap.size w)
  have H : ((keys_Encode.f (([(⟨1, (⟨#[97, 0]⟩ : ByteArray), 0⟩ : S36), (⟨2, (⟨#[]⟩ : ByteArray), 258⟩ : S36)] : List (S36)))).bind fun bt114 => (if bt114.1.toList = ([1, 97, 0, 255, 0, 1, 2, 0, 0, 0, 0, 0, 0, 1, 2] : List UInt8) then (some (bt114.2 == 0)) else (some false))) = some r := h
  clear h
  obtain ⟨y111, hy111⟩ : ∃ y_ : List (S36), y_ = (([(⟨1, (⟨#[97, 0]⟩ : ByteArray), 0⟩ : S36), (⟨2, (⟨#[]⟩ : ByteArray), 258⟩ : S36)] : List (S36))) := ⟨_, rfl⟩
  replace H : ((keys_Encode.f y111).bind fun bt114 => (if bt114.1.toList = ([1, 97, 0, 255, 0, 1, 2, 0, 0, 0, 0, 0, 0, 1, 2] : List UInt8) then (some (bt114.2 == 0)) else (some false))) = some r := by first | (rw [hy111]; with_reducible exact H) | (have H2_ := (Option.bind_some _ _).symm.trans H; rw [hy111]; with_reducible exact H2_) | (have H2_ := (Option.bind_some _ _).symm.trans H; with_reducible exact H2_) | with_reducible exact H | (rw [hy111]; exact H) | exact H
  have Ny111 := Aside0.mk hy111
  clear hy111
  replace H := Option.bind_eq_some_iff.mp H
  obtain ⟨⟨t114, t115⟩, A10, H⟩ := H
  replace H : (if t114.toList = ([1, 97, 0, 255, 0, 1, 2, 0, 0, 0, 0, 0, 0, 1, 2] : List UInt8) then (some (t115 == 0)) else (some false)) = some r := H
  have A1 := Aside0.mk A10
  clear A10
  by_cases c2 : t114.toList = ([1, 97, 0, 255, 0, 1, 2, 0, 0, 0, 0, 0, 0, 1, 2] : List UInt8)
  · rw [if_pos c2] at H
    have c2b0 : (t114.toList == ([1, 97, 0, 255, 0, 1, 2, 0, 0, 0, 0, 0, 0, 1, 2] : List UInt8)) = true := beq_iff_eq.mpr c2
    have c2b1 : (t114.toList != ([1, 97, 0, 255, 0, 1, 2, 0, 0, 0, 0, 0, 0, 1, 2] : List UInt8)) = false := bne_eq_false_iff_eq.mpr c2
    clear c2
    obtain rfl := Option.some.inj H
    go_enter Try.func16, Try.ntmps16
    go_wp2_with (first | ((with_reducible refine gate_dst (N := 6) rfl ?_); refine Kd.R_lit k36 _ 36 ?hg (N := 6) ?hd (xs := ([(⟨1, (⟨#[97, 0]⟩ : ByteArray), 0⟩ : S36), (⟨2, (⟨#[]⟩ : ByteArray), 258⟩ : S36)] : List (S36))) (inner := [.int .i64 1, .string (⟨#[97, 0]⟩ : ByteArray), .int .u64 0, .int .i64 2, .string (⟨#[]⟩ : ByteArray), .int .u64 258]) (ok := fun _ => True) (okp := fun _ => True) ?hr ?hp (fun _ hk => hk) trivial (Below.refl _ _) (Nat.le_refl _) (by simp) ?_; (case hd => rfl); (case hg => rfl); (case hr => first | (go_simp; done) | (go_simp; rfl)); (case hp => exact (Reps.c3 (show Kd.M k36 _ _ _ (⟨1, (⟨#[97, 0]⟩ : ByteArray), 0⟩ : S36) [.int .i64 1, .string (⟨#[97, 0]⟩ : ByteArray), .int .u64 0] from (k36_mkM _ _ _ (⟨1, (⟨#[97, 0]⟩ : ByteArray), 0⟩ : S36) )) (Reps.c3 (show Kd.M k36 _ _ _ (⟨2, (⟨#[]⟩ : ByteArray), 258⟩ : S36) [.int .i64 2, .string (⟨#[]⟩ : ByteArray), .int .u64 258] from (k36_mkM _ _ _ (⟨2, (⟨#[]⟩ : ByteArray), 258⟩ : S36) )) (Reps.none _ _)))); intro v112 w3 ho4 hb hg_ hnew_; clear hg_ hnew_; (first | rw [← Ny111.out] at ho4 | (simp only [Int.reduceToNat] at ho4; rw [← Ny111.out] at ho4)); have n0_ := Aside0.mk (Kd.R_lower ho4 (below_size (by repeat (first | (with_reducible first | exact HB.out | apply below_alloc | apply pw_below_drewN | apply below_drew1) | exact HB.out)))); have n1_ := Aside0.mk (below_step (by repeat (first | (with_reducible first | exact HB.out | apply below_alloc | apply pw_below_drewN | apply below_drew1) | exact HB.out)) hb); clear HB; have HO113 := n0_; have HB := n1_; clear n0_ n1_; clear hb ho4; obtain ⟨Ao5, co5, eo5⟩ := Kd.R_slice HO113.out; subst eo5) | ((with_reducible refine gate_callee (f := 18) rfl ?_); refine goesL_ (some 7) rfl rfl Try.func18 (by kernel_rfl) rfl #[.slice Ao5 y111.length co5] rfl (by (try simp only [List.map_toArray, List.map_cons, List.map_nil]); first | done | rfl | (simp only [List.length_drop, List.length_take]; rfl)) ?_; (with_reducible refine (keys_Encode.calls _ _ y111 t114 t115 _ ?side1 ?side2 A1.out).mono ?_); (case side1 => repeat (first | exact (Kd.R_reads' HO113.out).2.2 | (with_reducible refine Kd.C_alloc ?_ _) | (with_reducible refine Kd.C_drewN ?_ _) | (with_reducible refine Kd.C_drew ?_))); (case side2 => exact (Kd.R_reads' HO113.out).2.1); rintro e w6 ⟨rfl, hb⟩; refine ⟨_, rfl, ?_⟩; have n0_ := Aside0.mk (Kd.R_below (by (with_reducible repeat (first | apply Kd.R_alloc | apply Kd.R_drewN | apply Kd.R_drew)); exact HO113.out) hb); have n1_ := Aside0.mk (below_step (by repeat (first | (with_reducible first | exact HB.out | apply below_alloc | apply pw_below_drewN | apply below_drew1) | exact HB.out)) hb); clear HO113; clear HB; have HO113 := n0_; have HB := n1_; clear n0_ n1_; (try clear hb); (try clear hb2); (try clear hk); (try clear hi)))
    go_ret
    exact ⟨by first | rfl | (simp [errW_none, errW_some] <;> rfl) | (simp [*, errW_none, errW_some] <;> rfl), by repeat (first | (with_reducible first | exact HB.out | apply below_alloc | apply pw_below_drewN | apply below_drew1) | exact HB.out)⟩
  · rw [if_neg c2] at H
    have c2b0 : (t114.toList == ([1, 97, 0, 255, 0, 1, 2, 0, 0, 0, 0, 0, 0, 1, 2] : List UInt8)) = false := beq_eq_false_iff_ne.mpr c2
    have c2b1 : (t114.toList != ([1, 97, 0, 255, 0, 1, 2, 0, 0, 0, 0, 0, 0, 1, 2] : List UInt8)) = true := bne_iff_ne.mpr c2
    obtain rfl := Option.some.inj H
    go_enter Try.func16, Try.ntmps16
    go_wp2_with (first | ((with_reducible refine gate_dst (N := 6) rfl ?_); refine Kd.R_lit k36 _ 36 ?hg (N := 6) ?hd (xs := ([(⟨1, (⟨#[97, 0]⟩ : ByteArray), 0⟩ : S36), (⟨2, (⟨#[]⟩ : ByteArray), 258⟩ : S36)] : List (S36))) (inner := [.int .i64 1, .string (⟨#[97, 0]⟩ : ByteArray), .int .u64 0, .int .i64 2, .string (⟨#[]⟩ : ByteArray), .int .u64 258]) (ok := fun _ => True) (okp := fun _ => True) ?hr ?hp (fun _ hk => hk) trivial (Below.refl _ _) (Nat.le_refl _) (by simp) ?_; (case hd => rfl); (case hg => rfl); (case hr => first | (go_simp; done) | (go_simp; rfl)); (case hp => exact (Reps.c3 (show Kd.M k36 _ _ _ (⟨1, (⟨#[97, 0]⟩ : ByteArray), 0⟩ : S36) [.int .i64 1, .string (⟨#[97, 0]⟩ : ByteArray), .int .u64 0] from (k36_mkM _ _ _ (⟨1, (⟨#[97, 0]⟩ : ByteArray), 0⟩ : S36) )) (Reps.c3 (show Kd.M k36 _ _ _ (⟨2, (⟨#[]⟩ : ByteArray), 258⟩ : S36) [.int .i64 2, .string (⟨#[]⟩ : ByteArray), .int .u64 258] from (k36_mkM _ _ _ (⟨2, (⟨#[]⟩ : ByteArray), 258⟩ : S36) )) (Reps.none _ _)))); intro v112 w7 ho8 hb hg_ hnew_; clear hg_ hnew_; (first | rw [← Ny111.out] at ho8 | (simp only [Int.reduceToNat] at ho8; rw [← Ny111.out] at ho8)); have n0_ := Aside0.mk (Kd.R_lower ho8 (below_size (by repeat (first | (with_reducible first | exact HB.out | apply below_alloc | apply pw_below_drewN | apply below_drew1) | exact HB.out)))); have n1_ := Aside0.mk (below_step (by repeat (first | (with_reducible first | exact HB.out | apply below_alloc | apply pw_below_drewN | apply below_drew1) | exact HB.out)) hb); clear HB; have HO113 := n0_; have HB := n1_; clear n0_ n1_; clear hb ho8; obtain ⟨Ao9, co9, eo9⟩ := Kd.R_slice HO113.out; subst eo9) | ((with_reducible refine gate_callee (f := 18) rfl ?_); refine goesL_ (some 7) rfl rfl Try.func18 (by kernel_rfl) rfl #[.slice Ao9 y111.length co9] rfl (by (try simp only [List.map_toArray, List.map_cons, List.map_nil]); first | done | rfl | (simp only [List.length_drop, List.length_take]; rfl)) ?_; (with_reducible refine (keys_Encode.calls _ _ y111 t114 t115 _ ?side1 ?side2 A1.out).mono ?_); (case side1 => repeat (first | exact (Kd.R_reads' HO113.out).2.2 | (with_reducible refine Kd.C_alloc ?_ _) | (with_reducible refine Kd.C_drewN ?_ _) | (with_reducible refine Kd.C_drew ?_))); (case side2 => exact (Kd.R_reads' HO113.out).2.1); rintro e w10 ⟨rfl, hb⟩; refine ⟨_, rfl, ?_⟩; have n0_ := Aside0.mk (Kd.R_below (by (with_reducible repeat (first | apply Kd.R_alloc | apply Kd.R_drewN | apply Kd.R_drew)); exact HO113.out) hb); have n1_ := Aside0.mk (below_step (by repeat (first | (with_reducible first | exact HB.out | apply below_alloc | apply pw_below_drewN | apply below_drew1) | exact HB.out)) hb); clear HO113; clear HB; have HO113 := n0_; have HB := n1_; clear n0_ n1_; (try clear hb); (try clear hb2); (try clear hk); (try clear hi)))
    go_ret
    exact ⟨by first | rfl | (simp [errW_none, errW_some] <;> rfl) | (simp [*, errW_none, errW_some] <;> rfl), by repeat (first | (with_reducible first | exact HB.out | apply below_alloc | apply pw_below_drewN | apply below_drew1) | exact HB.out)⟩

end Go.Proofs.Ytjkljhcfbgcgoaa.K
