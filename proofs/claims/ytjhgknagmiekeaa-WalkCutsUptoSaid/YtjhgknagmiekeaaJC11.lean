/- joined: K27f -/
import Derived.Test.YtjhgknagmiekeaaJC7
-- Written by a program of this session (wip/tools/printfam.py) out of the translation; hand-proved contracts set in. Lean checks it.
namespace Go.Proofs.Ytjhgknagmiekeaa.K
open Go.RowKit Go.Proofs.YtjhgknagmiekeaaW.PrintWords Go.Proofs.YtjhgknagmiekeaaW.PrintLast Go.Proofs.YtjhgknagmiekeaaW.PrintMore
attribute [local go_sem] max2_int min2_int max_two min_two max_three min_three max_four min_four   -- for this text's walks alone
set_option linter.unusedVariables false
set_option linter.unusedSimpArgs false
set_option maxHeartbeats 8000000 in
set_option maxRecDepth 100000 in
theorem musterref03_Insert.calls_f (k : Nat) (A0_0 : Option Addr) (c0_0 : Nat) (l0_0 : List ByteArray) (A0_1 : Option Addr) (c0_1 : Nat) (l0_1 : List Int) (A0_2 : Option Addr) (c0_2 : Nat) (l0_2 : List Int) (A0_3 : Option Addr) (c0_3 : Nat) (l0_3 : List ByteArray) (A0_4 : Option Addr) (c0_4 : Nat) (l0_4 : List Int) (a1 : ByteArray) (a2 : Int) (a3 : Int) (r1 : List ByteArray) (r2 : List Int) (r3 : List Int) (r4 : List ByteArray) (r5 : List Int) (r6 : Int) (r7 : Bool) (r8 : Int) (w : World) (hr0_0 : Kd.C Kd.string w A0_0 l0_0.length l0_0) (hc0_0 : l0_0.length ≤ c0_0) (hr0_1 : Kd.C (Kd.int .i64) w A0_1 l0_1.length l0_1) (hc0_1 : l0_1.length ≤ c0_1) (hr0_2 : Kd.C (Kd.int .i64) w A0_2 l0_2.length l0_2) (hc0_2 : l0_2.length ≤ c0_2) (hr0_3 : Kd.C Kd.string w A0_3 l0_3.length l0_3) (hc0_3 : l0_3.length ≤ c0_3) (hr0_4 : Kd.C (Kd.int .i64) w A0_4 l0_4.length l0_4) (hc0_4 : l0_4.length ≤ c0_4) (h : musterref03_Insert.f k l0_0 l0_1 l0_2 l0_3 l0_4 a1 a2 a3 = some (r1, r2, r3, r4, r5, r6, r7, r8)) (hcase : ∀ x y, musterref03_Find.f k l0_0 a1 = some (x, y) → y = false) :
  Calls Try.prog 66 #[.agg #[.slice A0_0 l0_0.length c0_0, .slice A0_1 l0_1.length c0_1, .slice A0_2 l0_2.length c0_2, .slice A0_3 l0_3.length c0_3, .slice A0_4 l0_4.length c0_4], .string a1, .int .i64 a2, .int .i64 a3] w fun e w' => ∃ v0_ v1_ v2_ v3_ v4_ : Value, e = .returned (.tuple #[.agg #[v0_, v1_, v2_, v3_, v4_], .int .i64 r6, .bool r7, .int .i64 r8]) ∧ Kd.R Kd.string 9 w' w.heap.size (fun k_ => some k_ ≠ (v3_ : Value).ownBlock) v0_ r1 ∧ Kd.R (Kd.int .i64) 3 w' w.heap.size (fun k_ => some k_ ≠ (v2_ : Value).ownBlock ∧ some k_ ≠ (v4_ : Value).ownBlock) v1_ r2 ∧ Kd.R (Kd.int .i64) 3 w' w.heap.size (fun k_ => some k_ ≠ (v1_ : Value).ownBlock ∧ some k_ ≠ (v4_ : Value).ownBlock) v2_ r3 ∧ Kd.R Kd.string 9 w' w.heap.size (fun k_ => some k_ ≠ (v0_ : Value).ownBlock) v3_ r4 ∧ Kd.R (Kd.int .i64) 3 w' w.heap.size (fun k_ => some k_ ≠ (v1_ : Value).ownBlock ∧ some k_ ≠ (v2_ : Value).ownBlock) v4_ r5 ∧ Below w.heap.size w w' := by
 have hu28 := Try.underlying28
 have HR0_0 := Aside0.mk hr0_0
 have HC0_0 := Aside0.mk hc0_0
 clear hr0_0 hc0_0
 have HR0_1 := Aside0.mk hr0_1
 have HC0_1 := Aside0.mk hc0_1
 clear hr0_1 hc0_1
 have HR0_2 := Aside0.mk hr0_2
 have HC0_2 := Aside0.mk hc0_2
 clear hr0_2 hc0_2
 have HR0_3 := Aside0.mk hr0_3
 have HC0_3 := Aside0.mk hc0_3
 clear hr0_3 hc0_3
 have HR0_4 := Aside0.mk hr0_4
 have HC0_4 := Aside0.mk hc0_4
 clear hr0_4 hc0_4
 have HB := Aside0.mk (Below.refl w.heap.size w)
 have H : ((musterref03_Find.f k l0_0 a1).bind fun bt164 => (if 0 ≤ bt164.1 then (if bt164.1 ≤ (l0_0.length : Int) then (if ([] : List ByteArray).length + (l0_0.take (bt164.1 : Int).toNat).length < 8796093022208 then ((some (([] : List ByteArray) ++ (l0_0.take (bt164.1 : Int).toNat) : List ByteArray)).bind fun y168 => (if bt164.1 ≤ (l0_1.length : Int) then (if ([] : List Int).length + (l0_1.take (bt164.1 : Int).toNat).length < 17592186044416 then ((some (([] : List Int) ++ (l0_1.take (bt164.1 : Int).toNat) : List Int)).bind fun y172 => (if bt164.1 ≤ (l0_2.length : Int) then (if ([] : List Int).length + (l0_2.take (bt164.1 : Int).toNat).length < 17592186044416 then ((some (([] : List Int) ++ (l0_2.take (bt164.1 : Int).toNat) : List Int)).bind fun y176 => (if y168.length < 8796093022208 then ((some (y168 ++ [a1] : List ByteArray)).bind fun y179 => (if y172.length < 17592186044416 then ((some (y172 ++ [a2] : List Int)).bind fun y182 => (if y176.length < 17592186044416 then ((some (y176 ++ [a3] : List Int)).bind fun y185 => (if bt164.2 = true then (if bt164.1 < (l0_1.length : Int) then (if 0 ≤ (wrap64 (bt164.1 + 1)) then (if (wrap64 (bt164.1 + 1)) ≤ (l0_0.length : Int) then (if y179.length + (l0_0.drop ((wrap64 (bt164.1 + 1)) : Int).toNat).length < 8796093022208 then (if (wrap64 (bt164.1 + 1)) ≤ (l0_1.length : Int) then (if y182.length + (l0_1.drop ((wrap64 (bt164.1 + 1)) : Int).toNat).length < 17592186044416 then (if (wrap64 (bt164.1 + 1)) ≤ (l0_2.length : Int) then (if y185.length + (l0_2.drop ((wrap64 (bt164.1 + 1)) : Int).toNat).length < 17592186044416 then ((musterref03_remade.f k l0_0 l0_1 l0_2 l0_3 l0_4 (y179 ++ (l0_0.drop ((wrap64 (bt164.1 + 1)) : Int).toNat)) (y182 ++ (l0_1.drop ((wrap64 (bt164.1 + 1)) : Int).toNat)) (y185 ++ (l0_2.drop ((wrap64 (bt164.1 + 1)) : Int).toNat)) ([] : List ByteArray) ([] : List Int) a1 (wrap64 (a3 + 1))).bind fun bt201 => (some (bt201.1, bt201.2.1, bt201.2.2.1, bt201.2.2.2.1, bt201.2.2.2.2.1, rd l0_1 bt164.1, bt164.2, bt201.2.2.2.2.2))) else (none)) else (none)) else (none)) else (none)) else (none)) else (none)) else (none)) else (none)) else (if y179.length + (l0_0.drop (bt164.1 : Int).toNat).length < 8796093022208 then (if y182.length + (l0_1.drop (bt164.1 : Int).toNat).length < 17592186044416 then (if y185.length + (l0_2.drop (bt164.1 : Int).toNat).length < 17592186044416 then ((musterref03_remade.f k l0_0 l0_1 l0_2 l0_3 l0_4 (y179 ++ (l0_0.drop (bt164.1 : Int).toNat)) (y182 ++ (l0_1.drop (bt164.1 : Int).toNat)) (y185 ++ (l0_2.drop (bt164.1 : Int).toNat)) ([] : List ByteArray) ([] : List Int) a1 (wrap64 (a3 + 1))).bind fun bt229 => (some (bt229.1, bt229.2.1, bt229.2.2.1, bt229.2.2.2.1, bt229.2.2.2.2.1, 0, bt164.2, bt229.2.2.2.2.2))) else (none)) else (none)) else (none)))) else (none))) else (none))) else (none))) else (none)) else (none))) else (none)) else (none))) else (none)) else (none)) else (none))) = some (r1, r2, r3, r4, r5, r6, r7, r8) := h
 clear h
 replace H := Option.bind_eq_some_iff.mp H
 obtain ⟨⟨t164, t165⟩, A50, H⟩ := H
 have HCASE := Aside0.mk (hcase _ _ A50)
 clear hcase
 replace H : (if 0 ≤ t164 then (if t164 ≤ (l0_0.length : Int) then (if ([] : List ByteArray).length + (l0_0.take (t164 : Int).toNat).length < 8796093022208 then ((some (([] : List ByteArray) ++ (l0_0.take (t164 : Int).toNat) : List ByteArray)).bind fun y168 => (if t164 ≤ (l0_1.length : Int) then (if ([] : List Int).length + (l0_1.take (t164 : Int).toNat).length < 17592186044416 then ((some (([] : List Int) ++ (l0_1.take (t164 : Int).toNat) : List Int)).bind fun y172 => (if t164 ≤ (l0_2.length : Int) then (if ([] : List Int).length + (l0_2.take (t164 : Int).toNat).length < 17592186044416 then ((some (([] : List Int) ++ (l0_2.take (t164 : Int).toNat) : List Int)).bind fun y176 => (if y168.length < 8796093022208 then ((some (y168 ++ [a1] : List ByteArray)).bind fun y179 => (if y172.length < 17592186044416 then ((some (y172 ++ [a2] : List Int)).bind fun y182 => (if y176.length < 17592186044416 then ((some (y176 ++ [a3] : List Int)).bind fun y185 => (if t165 = true then (if t164 < (l0_1.length : Int) then (if 0 ≤ (wrap64 (t164 + 1)) then (if (wrap64 (t164 + 1)) ≤ (l0_0.length : Int) then (if y179.length + (l0_0.drop ((wrap64 (t164 + 1)) : Int).toNat).length < 8796093022208 then (if (wrap64 (t164 + 1)) ≤ (l0_1.length : Int) then (if y182.length + (l0_1.drop ((wrap64 (t164 + 1)) : Int).toNat).length < 17592186044416 then (if (wrap64 (t164 + 1)) ≤ (l0_2.length : Int) then (if y185.length + (l0_2.drop ((wrap64 (t164 + 1)) : Int).toNat).length < 17592186044416 then ((musterref03_remade.f k l0_0 l0_1 l0_2 l0_3 l0_4 (y179 ++ (l0_0.drop ((wrap64 (t164 + 1)) : Int).toNat)) (y182 ++ (l0_1.drop ((wrap64 (t164 + 1)) : Int).toNat)) (y185 ++ (l0_2.drop ((wrap64 (t164 + 1)) : Int).toNat)) ([] : List ByteArray) ([] : List Int) a1 (wrap64 (a3 + 1))).bind fun bt201 => (some (bt201.1, bt201.2.1, bt201.2.2.1, bt201.2.2.2.1, bt201.2.2.2.2.1, rd l0_1 t164, t165, bt201.2.2.2.2.2))) else (none)) else (none)) else (none)) else (none)) else (none)) else (none)) else (none)) else (none)) else (if y179.length + (l0_0.drop (t164 : Int).toNat).length < 8796093022208 then (if y182.length + (l0_1.drop (t164 : Int).toNat).length < 17592186044416 then (if y185.length + (l0_2.drop (t164 : Int).toNat).length < 17592186044416 then ((musterref03_remade.f k l0_0 l0_1 l0_2 l0_3 l0_4 (y179 ++ (l0_0.drop (t164 : Int).toNat)) (y182 ++ (l0_1.drop (t164 : Int).toNat)) (y185 ++ (l0_2.drop (t164 : Int).toNat)) ([] : List ByteArray) ([] : List Int) a1 (wrap64 (a3 + 1))).bind fun bt229 => (some (bt229.1, bt229.2.1, bt229.2.2.1, bt229.2.2.2.1, bt229.2.2.2.2.1, 0, t165, bt229.2.2.2.2.2))) else (none)) else (none)) else (none)))) else (none))) else (none))) else (none))) else (none)) else (none))) else (none)) else (none))) else (none)) else (none)) else (none)) = some (r1, r2, r3, r4, r5, r6, r7, r8) := H
 have A5 := Aside0.mk A50
 clear A50
 by_cases c6 : 0 ≤ t164
 ·rw [if_pos c6] at H
  have c6b0 := eq_true c6
  have c6b1 : decide (0 ≤ t164) = true := decide_eq_true c6
  clear c6
  by_cases c7 : t164 ≤ (l0_0.length : Int)
  ·rw [if_pos c7] at H
   have c7b0 := eq_true c7
   have c7b1 : decide (t164 ≤ (l0_0.length : Int)) = true := decide_eq_true c7
   clear c7
   by_cases c8 : ([] : List ByteArray).length + (l0_0.take (t164 : Int).toNat).length < 8796093022208
   ·rw [if_pos c8] at H
    have LMc8 := Aside0.mk c8
    clear c8
    obtain ⟨y168, hy168⟩ : ∃ y_ : List ByteArray, y_ = (([] : List ByteArray) ++ (l0_0.take (t164 : Int).toNat)) := ⟨_, rfl⟩
    replace H : (if t164 ≤ (l0_1.length : Int) then (if ([] : List Int).length + (l0_1.take (t164 : Int).toNat).length < 17592186044416 then ((some (([] : List Int) ++ (l0_1.take (t164 : Int).toNat) : List Int)).bind fun y172 => (if t164 ≤ (l0_2.length : Int) then (if ([] : List Int).length + (l0_2.take (t164 : Int).toNat).length < 17592186044416 then ((some (([] : List Int) ++ (l0_2.take (t164 : Int).toNat) : List Int)).bind fun y176 => (if y168.length < 8796093022208 then ((some (y168 ++ [a1] : List ByteArray)).bind fun y179 => (if y172.length < 17592186044416 then ((some (y172 ++ [a2] : List Int)).bind fun y182 => (if y176.length < 17592186044416 then ((some (y176 ++ [a3] : List Int)).bind fun y185 => (if t165 = true then (if t164 < (l0_1.length : Int) then (if 0 ≤ (wrap64 (t164 + 1)) then (if (wrap64 (t164 + 1)) ≤ (l0_0.length : Int) then (if y179.length + (l0_0.drop ((wrap64 (t164 + 1)) : Int).toNat).length < 8796093022208 then (if (wrap64 (t164 + 1)) ≤ (l0_1.length : Int) then (if y182.length + (l0_1.drop ((wrap64 (t164 + 1)) : Int).toNat).length < 17592186044416 then (if (wrap64 (t164 + 1)) ≤ (l0_2.length : Int) then (if y185.length + (l0_2.drop ((wrap64 (t164 + 1)) : Int).toNat).length < 17592186044416 then ((musterref03_remade.f k l0_0 l0_1 l0_2 l0_3 l0_4 (y179 ++ (l0_0.drop ((wrap64 (t164 + 1)) : Int).toNat)) (y182 ++ (l0_1.drop ((wrap64 (t164 + 1)) : Int).toNat)) (y185 ++ (l0_2.drop ((wrap64 (t164 + 1)) : Int).toNat)) ([] : List ByteArray) ([] : List Int) a1 (wrap64 (a3 + 1))).bind fun bt201 => (some (bt201.1, bt201.2.1, bt201.2.2.1, bt201.2.2.2.1, bt201.2.2.2.2.1, rd l0_1 t164, t165, bt201.2.2.2.2.2))) else (none)) else (none)) else (none)) else (none)) else (none)) else (none)) else (none)) else (none)) else (if y179.length + (l0_0.drop (t164 : Int).toNat).length < 8796093022208 then (if y182.length + (l0_1.drop (t164 : Int).toNat).length < 17592186044416 then (if y185.length + (l0_2.drop (t164 : Int).toNat).length < 17592186044416 then ((musterref03_remade.f k l0_0 l0_1 l0_2 l0_3 l0_4 (y179 ++ (l0_0.drop (t164 : Int).toNat)) (y182 ++ (l0_1.drop (t164 : Int).toNat)) (y185 ++ (l0_2.drop (t164 : Int).toNat)) ([] : List ByteArray) ([] : List Int) a1 (wrap64 (a3 + 1))).bind fun bt229 => (some (bt229.1, bt229.2.1, bt229.2.2.1, bt229.2.2.2.1, bt229.2.2.2.2.1, 0, t165, bt229.2.2.2.2.2))) else (none)) else (none)) else (none)))) else (none))) else (none))) else (none))) else (none)) else (none))) else (none)) else (none)) = some (r1, r2, r3, r4, r5, r6, r7, r8) := by first | (rw [hy168]; with_reducible exact H) | (have H2_ := (Option.bind_some _ _).symm.trans H; rw [hy168]; with_reducible exact H2_) | (have H2_ := (Option.bind_some _ _).symm.trans H; with_reducible exact H2_) | with_reducible exact H | (rw [hy168]; exact H) | exact H
    have Ny168 := Aside0.mk hy168
    clear hy168
    have c9b0 := eq_true (of_decide_eq_true (by first | (with_reducible assumption) | assumption) : 0 ≤ t164)
    by_cases c10 : t164 ≤ (l0_1.length : Int)
    ·rw [if_pos c10] at H
     have c10b0 := eq_true c10
     have c10b1 : decide (t164 ≤ (l0_1.length : Int)) = true := decide_eq_true c10
     clear c10
     by_cases c11 : ([] : List Int).length + (l0_1.take (t164 : Int).toNat).length < 17592186044416
     ·rw [if_pos c11] at H
      have LMc11 := Aside0.mk c11
      clear c11
      obtain ⟨y172, hy172⟩ : ∃ y_ : List Int, y_ = (([] : List Int) ++ (l0_1.take (t164 : Int).toNat)) := ⟨_, rfl⟩
      replace H : (if t164 ≤ (l0_2.length : Int) then (if ([] : List Int).length + (l0_2.take (t164 : Int).toNat).length < 17592186044416 then ((some (([] : List Int) ++ (l0_2.take (t164 : Int).toNat) : List Int)).bind fun y176 => (if y168.length < 8796093022208 then ((some (y168 ++ [a1] : List ByteArray)).bind fun y179 => (if y172.length < 17592186044416 then ((some (y172 ++ [a2] : List Int)).bind fun y182 => (if y176.length < 17592186044416 then ((some (y176 ++ [a3] : List Int)).bind fun y185 => (if t165 = true then (if t164 < (l0_1.length : Int) then (if 0 ≤ (wrap64 (t164 + 1)) then (if (wrap64 (t164 + 1)) ≤ (l0_0.length : Int) then (if y179.length + (l0_0.drop ((wrap64 (t164 + 1)) : Int).toNat).length < 8796093022208 then (if (wrap64 (t164 + 1)) ≤ (l0_1.length : Int) then (if y182.length + (l0_1.drop ((wrap64 (t164 + 1)) : Int).toNat).length < 17592186044416 then (if (wrap64 (t164 + 1)) ≤ (l0_2.length : Int) then (if y185.length + (l0_2.drop ((wrap64 (t164 + 1)) : Int).toNat).length < 17592186044416 then ((musterref03_remade.f k l0_0 l0_1 l0_2 l0_3 l0_4 (y179 ++ (l0_0.drop ((wrap64 (t164 + 1)) : Int).toNat)) (y182 ++ (l0_1.drop ((wrap64 (t164 + 1)) : Int).toNat)) (y185 ++ (l0_2.drop ((wrap64 (t164 + 1)) : Int).toNat)) ([] : List ByteArray) ([] : List Int) a1 (wrap64 (a3 + 1))).bind fun bt201 => (some (bt201.1, bt201.2.1, bt201.2.2.1, bt201.2.2.2.1, bt201.2.2.2.2.1, rd l0_1 t164, t165, bt201.2.2.2.2.2))) else (none)) else (none)) else (none)) else (none)) else (none)) else (none)) else (none)) else (none)) else (if y179.length + (l0_0.drop (t164 : Int).toNat).length < 8796093022208 then (if y182.length + (l0_1.drop (t164 : Int).toNat).length < 17592186044416 then (if y185.length + (l0_2.drop (t164 : Int).toNat).length < 17592186044416 then ((musterref03_remade.f k l0_0 l0_1 l0_2 l0_3 l0_4 (y179 ++ (l0_0.drop (t164 : Int).toNat)) (y182 ++ (l0_1.drop (t164 : Int).toNat)) (y185 ++ (l0_2.drop (t164 : Int).toNat)) ([] : List ByteArray) ([] : List Int) a1 (wrap64 (a3 + 1))).bind fun bt229 => (some (bt229.1, bt229.2.1, bt229.2.2.1, bt229.2.2.2.1, bt229.2.2.2.2.1, 0, t165, bt229.2.2.2.2.2))) else (none)) else (none)) else (none)))) else (none))) else (none))) else (none))) else (none)) else (none)) = some (r1, r2, r3, r4, r5, r6, r7, r8) := by first | (rw [hy172]; with_reducible exact H) | (have H2_ := (Option.bind_some _ _).symm.trans H; rw [hy172]; with_reducible exact H2_) | (have H2_ := (Option.bind_some _ _).symm.trans H; with_reducible exact H2_) | with_reducible exact H | (rw [hy172]; exact H) | exact H
      have Ny172 := Aside0.mk hy172
      clear hy172
      have c12b0 := eq_true (of_decide_eq_true (by first | (with_reducible assumption) | assumption) : 0 ≤ t164)
      by_cases c13 : t164 ≤ (l0_2.length : Int)
      ·rw [if_pos c13] at H
       have c13b0 := eq_true c13
       have c13b1 : decide (t164 ≤ (l0_2.length : Int)) = true := decide_eq_true c13
       clear c13
       by_cases c14 : ([] : List Int).length + (l0_2.take (t164 : Int).toNat).length < 17592186044416
       ·rw [if_pos c14] at H
        have LMc14 := Aside0.mk c14
        clear c14
        obtain ⟨y176, hy176⟩ : ∃ y_ : List Int, y_ = (([] : List Int) ++ (l0_2.take (t164 : Int).toNat)) := ⟨_, rfl⟩
        replace H : (if y168.length < 8796093022208 then ((some (y168 ++ [a1] : List ByteArray)).bind fun y179 => (if y172.length < 17592186044416 then ((some (y172 ++ [a2] : List Int)).bind fun y182 => (if y176.length < 17592186044416 then ((some (y176 ++ [a3] : List Int)).bind fun y185 => (if t165 = true then (if t164 < (l0_1.length : Int) then (if 0 ≤ (wrap64 (t164 + 1)) then (if (wrap64 (t164 + 1)) ≤ (l0_0.length : Int) then (if y179.length + (l0_0.drop ((wrap64 (t164 + 1)) : Int).toNat).length < 8796093022208 then (if (wrap64 (t164 + 1)) ≤ (l0_1.length : Int) then (if y182.length + (l0_1.drop ((wrap64 (t164 + 1)) : Int).toNat).length < 17592186044416 then (if (wrap64 (t164 + 1)) ≤ (l0_2.length : Int) then (if y185.length + (l0_2.drop ((wrap64 (t164 + 1)) : Int).toNat).length < 17592186044416 then ((musterref03_remade.f k l0_0 l0_1 l0_2 l0_3 l0_4 (y179 ++ (l0_0.drop ((wrap64 (t164 + 1)) : Int).toNat)) (y182 ++ (l0_1.drop ((wrap64 (t164 + 1)) : Int).toNat)) (y185 ++ (l0_2.drop ((wrap64 (t164 + 1)) : Int).toNat)) ([] : List ByteArray) ([] : List Int) a1 (wrap64 (a3 + 1))).bind fun bt201 => (some (bt201.1, bt201.2.1, bt201.2.2.1, bt201.2.2.2.1, bt201.2.2.2.2.1, rd l0_1 t164, t165, bt201.2.2.2.2.2))) else (none)) else (none)) else (none)) else (none)) else (none)) else (none)) else (none)) else (none)) else (if y179.length + (l0_0.drop (t164 : Int).toNat).length < 8796093022208 then (if y182.length + (l0_1.drop (t164 : Int).toNat).length < 17592186044416 then (if y185.length + (l0_2.drop (t164 : Int).toNat).length < 17592186044416 then ((musterref03_remade.f k l0_0 l0_1 l0_2 l0_3 l0_4 (y179 ++ (l0_0.drop (t164 : Int).toNat)) (y182 ++ (l0_1.drop (t164 : Int).toNat)) (y185 ++ (l0_2.drop (t164 : Int).toNat)) ([] : List ByteArray) ([] : List Int) a1 (wrap64 (a3 + 1))).bind fun bt229 => (some (bt229.1, bt229.2.1, bt229.2.2.1, bt229.2.2.2.1, bt229.2.2.2.2.1, 0, t165, bt229.2.2.2.2.2))) else (none)) else (none)) else (none)))) else (none))) else (none))) else (none)) = some (r1, r2, r3, r4, r5, r6, r7, r8) := by first | (rw [hy176]; with_reducible exact H) | (have H2_ := (Option.bind_some _ _).symm.trans H; rw [hy176]; with_reducible exact H2_) | (have H2_ := (Option.bind_some _ _).symm.trans H; with_reducible exact H2_) | with_reducible exact H | (rw [hy176]; exact H) | exact H
        have Ny176 := Aside0.mk hy176
        clear hy176
        by_cases c15 : y168.length < 8796093022208
        ·rw [if_pos c15] at H
         have LMc15 := Aside0.mk c15
         clear c15
         obtain ⟨y179, hy179⟩ : ∃ y_ : List ByteArray, y_ = (y168 ++ [a1]) := ⟨_, rfl⟩
         replace H : (if y172.length < 17592186044416 then ((some (y172 ++ [a2] : List Int)).bind fun y182 => (if y176.length < 17592186044416 then ((some (y176 ++ [a3] : List Int)).bind fun y185 => (if t165 = true then (if t164 < (l0_1.length : Int) then (if 0 ≤ (wrap64 (t164 + 1)) then (if (wrap64 (t164 + 1)) ≤ (l0_0.length : Int) then (if y179.length + (l0_0.drop ((wrap64 (t164 + 1)) : Int).toNat).length < 8796093022208 then (if (wrap64 (t164 + 1)) ≤ (l0_1.length : Int) then (if y182.length + (l0_1.drop ((wrap64 (t164 + 1)) : Int).toNat).length < 17592186044416 then (if (wrap64 (t164 + 1)) ≤ (l0_2.length : Int) then (if y185.length + (l0_2.drop ((wrap64 (t164 + 1)) : Int).toNat).length < 17592186044416 then ((musterref03_remade.f k l0_0 l0_1 l0_2 l0_3 l0_4 (y179 ++ (l0_0.drop ((wrap64 (t164 + 1)) : Int).toNat)) (y182 ++ (l0_1.drop ((wrap64 (t164 + 1)) : Int).toNat)) (y185 ++ (l0_2.drop ((wrap64 (t164 + 1)) : Int).toNat)) ([] : List ByteArray) ([] : List Int) a1 (wrap64 (a3 + 1))).bind fun bt201 => (some (bt201.1, bt201.2.1, bt201.2.2.1, bt201.2.2.2.1, bt201.2.2.2.2.1, rd l0_1 t164, t165, bt201.2.2.2.2.2))) else (none)) else (none)) else (none)) else (none)) else (none)) else (none)) else (none)) else (none)) else (if y179.length + (l0_0.drop (t164 : Int).toNat).length < 8796093022208 then (if y182.length + (l0_1.drop (t164 : Int).toNat).length < 17592186044416 then (if y185.length + (l0_2.drop (t164 : Int).toNat).length < 17592186044416 then ((musterref03_remade.f k l0_0 l0_1 l0_2 l0_3 l0_4 (y179 ++ (l0_0.drop (t164 : Int).toNat)) (y182 ++ (l0_1.drop (t164 : Int).toNat)) (y185 ++ (l0_2.drop (t164 : Int).toNat)) ([] : List ByteArray) ([] : List Int) a1 (wrap64 (a3 + 1))).bind fun bt229 => (some (bt229.1, bt229.2.1, bt229.2.2.1, bt229.2.2.2.1, bt229.2.2.2.2.1, 0, t165, bt229.2.2.2.2.2))) else (none)) else (none)) else (none)))) else (none))) else (none)) = some (r1, r2, r3, r4, r5, r6, r7, r8) := by first | (rw [hy179]; with_reducible exact H) | (have H2_ := (Option.bind_some _ _).symm.trans H; rw [hy179]; with_reducible exact H2_) | (have H2_ := (Option.bind_some _ _).symm.trans H; with_reducible exact H2_) | with_reducible exact H | (rw [hy179]; exact H) | exact H
         have Ny179 := Aside0.mk hy179
         clear hy179
         by_cases c16 : y172.length < 17592186044416
         ·rw [if_pos c16] at H
          have LMc16 := Aside0.mk c16
          clear c16
          obtain ⟨y182, hy182⟩ : ∃ y_ : List Int, y_ = (y172 ++ [a2]) := ⟨_, rfl⟩
          replace H : (if y176.length < 17592186044416 then ((some (y176 ++ [a3] : List Int)).bind fun y185 => (if t165 = true then (if t164 < (l0_1.length : Int) then (if 0 ≤ (wrap64 (t164 + 1)) then (if (wrap64 (t164 + 1)) ≤ (l0_0.length : Int) then (if y179.length + (l0_0.drop ((wrap64 (t164 + 1)) : Int).toNat).length < 8796093022208 then (if (wrap64 (t164 + 1)) ≤ (l0_1.length : Int) then (if y182.length + (l0_1.drop ((wrap64 (t164 + 1)) : Int).toNat).length < 17592186044416 then (if (wrap64 (t164 + 1)) ≤ (l0_2.length : Int) then (if y185.length + (l0_2.drop ((wrap64 (t164 + 1)) : Int).toNat).length < 17592186044416 then ((musterref03_remade.f k l0_0 l0_1 l0_2 l0_3 l0_4 (y179 ++ (l0_0.drop ((wrap64 (t164 + 1)) : Int).toNat)) (y182 ++ (l0_1.drop ((wrap64 (t164 + 1)) : Int).toNat)) (y185 ++ (l0_2.drop ((wrap64 (t164 + 1)) : Int).toNat)) ([] : List ByteArray) ([] : List Int) a1 (wrap64 (a3 + 1))).bind fun bt201 => (some (bt201.1, bt201.2.1, bt201.2.2.1, bt201.2.2.2.1, bt201.2.2.2.2.1, rd l0_1 t164, t165, bt201.2.2.2.2.2))) else (none)) else (none)) else (none)) else (none)) else (none)) else (none)) else (none)) else (none)) else (if y179.length + (l0_0.drop (t164 : Int).toNat).length < 8796093022208 then (if y182.length + (l0_1.drop (t164 : Int).toNat).length < 17592186044416 then (if y185.length + (l0_2.drop (t164 : Int).toNat).length < 17592186044416 then ((musterref03_remade.f k l0_0 l0_1 l0_2 l0_3 l0_4 (y179 ++ (l0_0.drop (t164 : Int).toNat)) (y182 ++ (l0_1.drop (t164 : Int).toNat)) (y185 ++ (l0_2.drop (t164 : Int).toNat)) ([] : List ByteArray) ([] : List Int) a1 (wrap64 (a3 + 1))).bind fun bt229 => (some (bt229.1, bt229.2.1, bt229.2.2.1, bt229.2.2.2.1, bt229.2.2.2.2.1, 0, t165, bt229.2.2.2.2.2))) else (none)) else (none)) else (none)))) else (none)) = some (r1, r2, r3, r4, r5, r6, r7, r8) := by first | (rw [hy182]; with_reducible exact H) | (have H2_ := (Option.bind_some _ _).symm.trans H; rw [hy182]; with_reducible exact H2_) | (have H2_ := (Option.bind_some _ _).symm.trans H; with_reducible exact H2_) | with_reducible exact H | (rw [hy182]; exact H) | exact H
          have Ny182 := Aside0.mk hy182
          clear hy182
          by_cases c17 : y176.length < 17592186044416
          ·rw [if_pos c17] at H
           have LMc17 := Aside0.mk c17
           clear c17
           obtain ⟨y185, hy185⟩ : ∃ y_ : List Int, y_ = (y176 ++ [a3]) := ⟨_, rfl⟩
           replace H : (if t165 = true then (if t164 < (l0_1.length : Int) then (if 0 ≤ (wrap64 (t164 + 1)) then (if (wrap64 (t164 + 1)) ≤ (l0_0.length : Int) then (if y179.length + (l0_0.drop ((wrap64 (t164 + 1)) : Int).toNat).length < 8796093022208 then (if (wrap64 (t164 + 1)) ≤ (l0_1.length : Int) then (if y182.length + (l0_1.drop ((wrap64 (t164 + 1)) : Int).toNat).length < 17592186044416 then (if (wrap64 (t164 + 1)) ≤ (l0_2.length : Int) then (if y185.length + (l0_2.drop ((wrap64 (t164 + 1)) : Int).toNat).length < 17592186044416 then ((musterref03_remade.f k l0_0 l0_1 l0_2 l0_3 l0_4 (y179 ++ (l0_0.drop ((wrap64 (t164 + 1)) : Int).toNat)) (y182 ++ (l0_1.drop ((wrap64 (t164 + 1)) : Int).toNat)) (y185 ++ (l0_2.drop ((wrap64 (t164 + 1)) : Int).toNat)) ([] : List ByteArray) ([] : List Int) a1 (wrap64 (a3 + 1))).bind fun bt201 => (some (bt201.1, bt201.2.1, bt201.2.2.1, bt201.2.2.2.1, bt201.2.2.2.2.1, rd l0_1 t164, t165, bt201.2.2.2.2.2))) else (none)) else (none)) else (none)) else (none)) else (none)) else (none)) else (none)) else (none)) else (if y179.length + (l0_0.drop (t164 : Int).toNat).length < 8796093022208 then (if y182.length + (l0_1.drop (t164 : Int).toNat).length < 17592186044416 then (if y185.length + (l0_2.drop (t164 : Int).toNat).length < 17592186044416 then ((musterref03_remade.f k l0_0 l0_1 l0_2 l0_3 l0_4 (y179 ++ (l0_0.drop (t164 : Int).toNat)) (y182 ++ (l0_1.drop (t164 : Int).toNat)) (y185 ++ (l0_2.drop (t164 : Int).toNat)) ([] : List ByteArray) ([] : List Int) a1 (wrap64 (a3 + 1))).bind fun bt229 => (some (bt229.1, bt229.2.1, bt229.2.2.1, bt229.2.2.2.1, bt229.2.2.2.2.1, 0, t165, bt229.2.2.2.2.2))) else (none)) else (none)) else (none))) = some (r1, r2, r3, r4, r5, r6, r7, r8) := by first | (rw [hy185]; with_reducible exact H) | (have H2_ := (Option.bind_some _ _).symm.trans H; rw [hy185]; with_reducible exact H2_) | (have H2_ := (Option.bind_some _ _).symm.trans H; with_reducible exact H2_) | with_reducible exact H | (rw [hy185]; exact H) | exact H
           have Ny185 := Aside0.mk hy185
           clear hy185
           by_cases c18 : t165 = true
           ·exact absurd (c18.symm.trans HCASE.out) (by simp)
           ·replace c18 := Bool.eq_false_iff.mpr c18
            subst c18
            have H1 : (if y179.length + (l0_0.drop (t164 : Int).toNat).length < 8796093022208 then (if y182.length + (l0_1.drop (t164 : Int).toNat).length < 17592186044416 then (if y185.length + (l0_2.drop (t164 : Int).toNat).length < 17592186044416 then ((musterref03_remade.f k l0_0 l0_1 l0_2 l0_3 l0_4 (y179 ++ (l0_0.drop (t164 : Int).toNat)) (y182 ++ (l0_1.drop (t164 : Int).toNat)) (y185 ++ (l0_2.drop (t164 : Int).toNat)) ([] : List ByteArray) ([] : List Int) a1 (wrap64 (a3 + 1))).bind fun bt229 => (some (bt229.1, bt229.2.1, bt229.2.2.1, bt229.2.2.2.1, bt229.2.2.2.2.1, 0, false, bt229.2.2.2.2.2))) else (none)) else (none)) else (none)) = some (r1, r2, r3, r4, r5, r6, r7, r8) := by rw [if_neg (show ¬ (false = true) by decide)] at H; exact H
            clear H
            have H := H1
            clear H1
            have c97b0 := eq_true (of_decide_eq_true (by first | (with_reducible assumption) | assumption) : 0 ≤ t164)
            have c98b0 := eq_true (of_decide_eq_true (by first | (with_reducible assumption) | assumption) : t164 ≤ (l0_0.length : Int))
            by_cases c99 : y179.length + (l0_0.drop (t164 : Int).toNat).length < 8796093022208
            ·rw [if_pos c99] at H
             have LMc99 := Aside0.mk c99
             clear c99
             obtain ⟨y218, hy218⟩ : ∃ y_ : List ByteArray, y_ = (y179 ++ (l0_0.drop (t164 : Int).toNat)) := ⟨_, rfl⟩
             replace H : (if y182.length + (l0_1.drop (t164 : Int).toNat).length < 17592186044416 then (if y185.length + (l0_2.drop (t164 : Int).toNat).length < 17592186044416 then ((musterref03_remade.f k l0_0 l0_1 l0_2 l0_3 l0_4 y218 (y182 ++ (l0_1.drop (t164 : Int).toNat)) (y185 ++ (l0_2.drop (t164 : Int).toNat)) ([] : List ByteArray) ([] : List Int) a1 (wrap64 (a3 + 1))).bind fun bt229 => (some (bt229.1, bt229.2.1, bt229.2.2.1, bt229.2.2.2.1, bt229.2.2.2.2.1, 0, false, bt229.2.2.2.2.2))) else (none)) else (none)) = some (r1, r2, r3, r4, r5, r6, r7, r8) := by first | (rw [hy218]; with_reducible exact H) | (have H2_ := (Option.bind_some _ _).symm.trans H; rw [hy218]; with_reducible exact H2_) | (have H2_ := (Option.bind_some _ _).symm.trans H; with_reducible exact H2_) | with_reducible exact H | (rw [hy218]; exact H) | exact H
             have Ny218 := Aside0.mk hy218
             clear hy218
             have c100b0 := eq_true (of_decide_eq_true (by first | (with_reducible assumption) | assumption) : 0 ≤ t164)
             have c101b0 := eq_true (of_decide_eq_true (by first | (with_reducible assumption) | assumption) : t164 ≤ (l0_1.length : Int))
             by_cases c102 : y182.length + (l0_1.drop (t164 : Int).toNat).length < 17592186044416
             ·rw [if_pos c102] at H
              have LMc102 := Aside0.mk c102
              clear c102
              obtain ⟨y222, hy222⟩ : ∃ y_ : List Int, y_ = (y182 ++ (l0_1.drop (t164 : Int).toNat)) := ⟨_, rfl⟩
              replace H : (if y185.length + (l0_2.drop (t164 : Int).toNat).length < 17592186044416 then ((musterref03_remade.f k l0_0 l0_1 l0_2 l0_3 l0_4 y218 y222 (y185 ++ (l0_2.drop (t164 : Int).toNat)) ([] : List ByteArray) ([] : List Int) a1 (wrap64 (a3 + 1))).bind fun bt229 => (some (bt229.1, bt229.2.1, bt229.2.2.1, bt229.2.2.2.1, bt229.2.2.2.2.1, 0, false, bt229.2.2.2.2.2))) else (none)) = some (r1, r2, r3, r4, r5, r6, r7, r8) := by first | (rw [hy222]; with_reducible exact H) | (have H2_ := (Option.bind_some _ _).symm.trans H; rw [hy222]; with_reducible exact H2_) | (have H2_ := (Option.bind_some _ _).symm.trans H; with_reducible exact H2_) | with_reducible exact H | (rw [hy222]; exact H) | exact H
              have Ny222 := Aside0.mk hy222
              clear hy222
              have c103b0 := eq_true (of_decide_eq_true (by first | (with_reducible assumption) | assumption) : 0 ≤ t164)
              have c104b0 := eq_true (of_decide_eq_true (by first | (with_reducible assumption) | assumption) : t164 ≤ (l0_2.length : Int))
              by_cases c105 : y185.length + (l0_2.drop (t164 : Int).toNat).length < 17592186044416
              ·rw [if_pos c105] at H
               have LMc105 := Aside0.mk c105
               clear c105
               obtain ⟨y226, hy226⟩ : ∃ y_ : List Int, y_ = (y185 ++ (l0_2.drop (t164 : Int).toNat)) := ⟨_, rfl⟩
               replace H : ((musterref03_remade.f k l0_0 l0_1 l0_2 l0_3 l0_4 y218 y222 y226 ([] : List ByteArray) ([] : List Int) a1 (wrap64 (a3 + 1))).bind fun bt229 => (some (bt229.1, bt229.2.1, bt229.2.2.1, bt229.2.2.2.1, bt229.2.2.2.2.1, 0, false, bt229.2.2.2.2.2))) = some (r1, r2, r3, r4, r5, r6, r7, r8) := by first | (rw [hy226]; with_reducible exact H) | (have H2_ := (Option.bind_some _ _).symm.trans H; rw [hy226]; with_reducible exact H2_) | (have H2_ := (Option.bind_some _ _).symm.trans H; with_reducible exact H2_) | with_reducible exact H | (rw [hy226]; exact H) | exact H
               have Ny226 := Aside0.mk hy226
               clear hy226
               replace H := Option.bind_eq_some_iff.mp H
               obtain ⟨⟨t229, t232, t235, t238, t241, t244⟩, A1060, H⟩ := H
               replace H : (some (t229, t232, t235, t238, t241, 0, false, t244)) = some (r1, r2, r3, r4, r5, r6, r7, r8) := H
               have A106 := Aside0.mk A1060
               clear A1060
               simp only [Option.some.injEq, Prod.mk.injEq] at H
               obtain ⟨rfl, rfl, rfl, rfl, rfl, rfl, rfl, rfl⟩ := H
               go_enter Try.func66, Try.ntmps66
               try go_wp2_with (first | ((with_reducible refine gate_dst (N := 4) rfl ?_); refine box_event ?hg (N := 4) ?hd (cs := #[.slice A0_0 l0_0.length c0_0, .slice A0_1 l0_1.length c0_1, .slice A0_2 l0_2.length c0_2, .slice A0_3 l0_3.length c0_3, .slice A0_4 l0_4.length c0_4]) (t := 28) ?hr ?_; (case hd => rfl); (case hg => rfl); (case hr => first | (go_simp; done) | (go_simp; rfl)); intro gb162 hg w107 hbox hb; have n0_ := Aside0.mk (below_step (by repeat (first | (with_reducible first | exact HB.out | apply below_alloc | apply pw_below_drewN | apply below_drew1) | exact HB.out)) hb); have n1_ := Aside0.mk (hbox); have n2_ := Aside0.mk ((by rw [hg]; exact (below_size (by repeat (first | (with_reducible first | exact HB.out | apply below_alloc | apply pw_below_drewN | apply below_drew1) | exact HB.out))) : w.heap.size ≤ gb162)); have n3_ := Aside0.mk ((by rw [hg]; exact (below_size (by repeat (first | (with_reducible first | exact HB.out | apply below_alloc | apply pw_below_drewN | apply below_drew1) | exact HB.out))) : w.heap.size ≤ gb162)); clear HB; have HB := n0_; have BK162 := n1_; have GW162 := n2_; have GE162 := n3_; clear n0_ n1_ n2_ n3_; clear hb hbox hg) | ((with_reducible refine gate_dst (N := 8) rfl ?_); refine box_event ?hg (N := 8) ?hd (cs := #[.slice none 0 0, .slice none 0 0, .slice none 0 0, .slice none 0 0, .slice none 0 0]) (t := 28) ?hr ?_; (case hd => rfl); (case hg => rfl); (case hr => first | (go_simp; done) | (go_simp; rfl)); intro gb163 hg w108 hbox hb; have n0_ := Aside0.mk (blk_below (g := gb162) (o := .cells #[.slice A0_0 l0_0.length c0_0, .slice A0_1 l0_1.length c0_1, .slice A0_2 l0_2.length c0_2, .slice A0_3 l0_3.length c0_3, .slice A0_4 l0_4.length c0_4] 28 (0, 0)) (by (with_reducible repeat (first | refine blk_drewN ?_ _ | refine blk_drew ?_ | refine blk_alloc ?_ _)); exact BK162.out) hb); have n1_ := Aside0.mk (below_step (by repeat (first | (with_reducible first | exact HB.out | apply below_alloc | apply pw_below_drewN | apply below_drew1 | refine below_set ?_ GE162.out) | exact HB.out)) hb); have n2_ := Aside0.mk (hbox); have n3_ := Aside0.mk ((by rw [hg]; exact (below_size (by repeat (first | (with_reducible first | exact HB.out | apply below_alloc | apply pw_below_drewN | apply below_drew1 | refine below_set ?_ GE162.out) | exact HB.out))) : w.heap.size ≤ gb163)); have n4_ := Aside0.mk ((by rw [hg]; exact (below_size (by repeat (first | (with_reducible first | exact HB.out | apply below_alloc | apply pw_below_drewN | apply below_drew1 | refine below_set ?_ GE162.out) | exact HB.out))) : w.heap.size ≤ gb163)); have n5_ := Aside0.mk ((by rw [hg]; exact Nat.ne_of_lt (blk_lt (g := gb162) (o := .cells #[.slice A0_0 l0_0.length c0_0, .slice A0_1 l0_1.length c0_1, .slice A0_2 l0_2.length c0_2, .slice A0_3 l0_3.length c0_3, .slice A0_4 l0_4.length c0_4] 28 (0, 0)) (by (with_reducible repeat (first | refine blk_drewN ?_ _ | refine blk_drew ?_ | refine blk_alloc ?_ _)); exact BK162.out)) : gb162 ≠ gb163)); have n6_ := Aside0.mk ((by rw [hg]; exact Nat.ne_of_gt (blk_lt (g := gb162) (o := .cells #[.slice A0_0 l0_0.length c0_0, .slice A0_1 l0_1.length c0_1, .slice A0_2 l0_2.length c0_2, .slice A0_3 l0_3.length c0_3, .slice A0_4 l0_4.length c0_4] 28 (0, 0)) (by (with_reducible repeat (first | refine blk_drewN ?_ _ | refine blk_drew ?_ | refine blk_alloc ?_ _)); exact BK162.out)) : gb163 ≠ gb162)); clear BK162; clear HB; have BK162 := n0_; have HB := n1_; have BK163 := n2_; have GW163 := n3_; have GE163 := n4_; have NB162_163 := n5_; have NB163_162 := n6_; clear n0_ n1_ n2_ n3_ n4_ n5_ n6_; clear hb hbox hg; have hnb109 := NB162_163.out; have hnc109 := NB163_162.out; have hcz110_0 : w108.cell? ⟨gb162, 0, none⟩ = some (.slice A0_0 l0_0.length c0_0) := (blk_cell BK162.out 0).trans rfl; have hcz110_1 : w108.cell? ⟨gb162, 1, none⟩ = some (.slice A0_1 l0_1.length c0_1) := (blk_cell BK162.out 1).trans rfl; have hcz110_2 : w108.cell? ⟨gb162, 2, none⟩ = some (.slice A0_2 l0_2.length c0_2) := (blk_cell BK162.out 2).trans rfl; have hcz110_3 : w108.cell? ⟨gb162, 3, none⟩ = some (.slice A0_3 l0_3.length c0_3) := (blk_cell BK162.out 3).trans rfl; have hcz110_4 : w108.cell? ⟨gb162, 4, none⟩ = some (.slice A0_4 l0_4.length c0_4) := (blk_cell BK162.out 4).trans rfl; have hfz110_0 := blk_frozen BK162.out 0; have hfz110_1 := blk_frozen BK162.out 1; have hfz110_2 := blk_frozen BK162.out 2; have hfz110_3 := blk_frozen BK162.out 3; have hfz110_4 := blk_frozen BK162.out 4) | ((with_reducible refine gate_callee (f := 91) rfl ?_); refine goesL_ (some 21) rfl rfl Try.func91 (by kernel_rfl) rfl #[.slice A0_0 l0_0.length c0_0, .string a1] rfl (by (try simp only [List.map_toArray, List.map_cons, List.map_nil]); first | done | rfl | (simp only [List.length_drop, List.length_take]; rfl)) ?_; (with_reducible refine (musterref03_Find.calls k _ _ l0_0 a1 t164 false _ ?side1 ?side2 A5.out).mono ?_); (case side1 => repeat (first | exact (Kd.C_below HR0_0.out HB.out) | (with_reducible refine Kd.C_alloc ?_ _) | (with_reducible refine Kd.C_drewN ?_ _) | (with_reducible refine Kd.C_drew ?_))); (case side2 => exact HC0_0.out); rintro e w' ⟨rfl, ⟨nd, rfl⟩⟩; refine ⟨_, rfl, ?_⟩; (try (rw [drewN_self w108]; generalize hq_ : World.drewN w108 _ = w108; have n0_ : Aside0 (w108.heap[gb162]? = some (.cells #[.slice A0_0 l0_0.length c0_0, .slice A0_1 l0_1.length c0_1, .slice A0_2 l0_2.length c0_2, .slice A0_3 l0_3.length c0_3, .slice A0_4 l0_4.length c0_4] 28 (0, 0))) := ⟨by rw [← hq_]; exact (by (with_reducible repeat (first | refine blk_drewN ?_ _ | refine blk_drew ?_ | refine blk_alloc ?_ _)); exact BK162.out)⟩; have n1_ : Aside0 (w108.heap[gb163]? = some (.cells #[.slice none 0 0, .slice none 0 0, .slice none 0 0, .slice none 0 0, .slice none 0 0] 28 (0, 0))) := ⟨by rw [← hq_]; exact (by (with_reducible repeat (first | refine blk_drewN ?_ _ | refine blk_drew ?_ | refine blk_alloc ?_ _)); exact BK163.out)⟩; have n2_ : Aside0 (Below w.heap.size w w108) := ⟨by rw [← hq_]; exact (by repeat (first | (with_reducible first | exact HB.out | apply below_alloc | apply pw_below_drewN | apply below_drew1 | refine below_set ?_ GE162.out | refine below_set ?_ GE163.out) | exact HB.out))⟩; clear BK162 BK163 HB hq_; have BK162 := n0_; have BK163 := n1_; have HB := n2_; clear n0_ n1_ n2_))) | ((with_reducible refine gate_dst (N := 14) rfl ?_); refine box_event ?hg (N := 14) ?hd (cs := #[.slice none 0 0, .slice none 0 0, .slice none 0 0, .slice none 0 0, .slice none 0 0]) (t := 28) ?hr ?_; (case hd => rfl); (case hg => rfl); (case hr => first | (go_simp; done) | (go_simp; rfl)); intro gb166 hg w111 hbox hb; have n0_ := Aside0.mk (blk_below (g := gb162) (o := .cells #[.slice A0_0 l0_0.length c0_0, .slice A0_1 l0_1.length c0_1, .slice A0_2 l0_2.length c0_2, .slice A0_3 l0_3.length c0_3, .slice A0_4 l0_4.length c0_4] 28 (0, 0)) (by (with_reducible repeat (first | refine blk_drewN ?_ _ | refine blk_drew ?_ | refine blk_alloc ?_ _)); exact BK162.out) hb); have n1_ := Aside0.mk (blk_below (g := gb163) (o := .cells #[.slice none 0 0, .slice none 0 0, .slice none 0 0, .slice none 0 0, .slice none 0 0] 28 (0, 0)) (by (with_reducible repeat (first | refine blk_drewN ?_ _ | refine blk_drew ?_ | refine blk_alloc ?_ _)); exact BK163.out) hb); have n2_ := Aside0.mk (below_step (by repeat (first | (with_reducible first | exact HB.out | apply below_alloc | apply pw_below_drewN | apply below_drew1 | refine below_set ?_ GE162.out | refine below_set ?_ GE163.out) | exact HB.out)) hb); have n3_ := Aside0.mk (hbox); have n4_ := Aside0.mk ((by rw [hg]; exact (below_size (by repeat (first | (with_reducible first | exact HB.out | apply below_alloc | apply pw_below_drewN | apply below_drew1 | refine below_set ?_ GE162.out | refine below_set ?_ GE163.out) | exact HB.out))) : w.heap.size ≤ gb166)); have n5_ := Aside0.mk ((by rw [hg]; exact (below_size (by repeat (first | (with_reducible first | exact HB.out | apply below_alloc | apply pw_below_drewN | apply below_drew1 | refine below_set ?_ GE162.out | refine below_set ?_ GE163.out) | exact HB.out))) : w.heap.size ≤ gb166)); have n6_ := Aside0.mk ((by rw [hg]; exact Nat.ne_of_lt (blk_lt (g := gb162) (o := .cells #[.slice A0_0 l0_0.length c0_0, .slice A0_1 l0_1.length c0_1, .slice A0_2 l0_2.length c0_2, .slice A0_3 l0_3.length c0_3, .slice A0_4 l0_4.length c0_4] 28 (0, 0)) (by (with_reducible repeat (first | refine blk_drewN ?_ _ | refine blk_drew ?_ | refine blk_alloc ?_ _)); exact BK162.out)) : gb162 ≠ gb166)); have n7_ := Aside0.mk ((by rw [hg]; exact Nat.ne_of_gt (blk_lt (g := gb162) (o := .cells #[.slice A0_0 l0_0.length c0_0, .slice A0_1 l0_1.length c0_1, .slice A0_2 l0_2.length c0_2, .slice A0_3 l0_3.length c0_3, .slice A0_4 l0_4.length c0_4] 28 (0, 0)) (by (with_reducible repeat (first | refine blk_drewN ?_ _ | refine blk_drew ?_ | refine blk_alloc ?_ _)); exact BK162.out)) : gb166 ≠ gb162)); have n8_ := Aside0.mk ((by rw [hg]; exact Nat.ne_of_lt (blk_lt (g := gb163) (o := .cells #[.slice none 0 0, .slice none 0 0, .slice none 0 0, .slice none 0 0, .slice none 0 0] 28 (0, 0)) (by (with_reducible repeat (first | refine blk_drewN ?_ _ | refine blk_drew ?_ | refine blk_alloc ?_ _)); exact BK163.out)) : gb163 ≠ gb166)); have n9_ := Aside0.mk ((by rw [hg]; exact Nat.ne_of_gt (blk_lt (g := gb163) (o := .cells #[.slice none 0 0, .slice none 0 0, .slice none 0 0, .slice none 0 0, .slice none 0 0] 28 (0, 0)) (by (with_reducible repeat (first | refine blk_drewN ?_ _ | refine blk_drew ?_ | refine blk_alloc ?_ _)); exact BK163.out)) : gb166 ≠ gb163)); clear BK162; clear BK163; clear HB; have BK162 := n0_; have BK163 := n1_; have HB := n2_; have BK166 := n3_; have GW166 := n4_; have GE166 := n5_; have NB162_166 := n6_; have NB166_162 := n7_; have NB163_166 := n8_; have NB166_163 := n9_; clear n0_ n1_ n2_ n3_ n4_ n5_ n6_ n7_ n8_ n9_; clear hb hbox hg; have hnb112 := NB166_162.out; have hnc112 := NB162_166.out; have hnb113 := NB166_163.out; have hnc113 := NB163_166.out; have hcz114_0 : w111.cell? ⟨gb166, 0, none⟩ = some (.slice none 0 0) := (blk_cell BK166.out 0).trans rfl; have hcz114_1 : w111.cell? ⟨gb166, 1, none⟩ = some (.slice none 0 0) := (blk_cell BK166.out 1).trans rfl; have hcz114_2 : w111.cell? ⟨gb166, 2, none⟩ = some (.slice none 0 0) := (blk_cell BK166.out 2).trans rfl; have hcz114_3 : w111.cell? ⟨gb166, 3, none⟩ = some (.slice none 0 0) := (blk_cell BK166.out 3).trans rfl; have hcz114_4 : w111.cell? ⟨gb166, 4, none⟩ = some (.slice none 0 0) := (blk_cell BK166.out 4).trans rfl; have hfz114_0 := blk_frozen BK166.out 0; have hfz114_1 := blk_frozen BK166.out 1; have hfz114_2 := blk_frozen BK166.out 2; have hfz114_3 := blk_frozen BK166.out 3; have hfz114_4 := blk_frozen BK166.out 4))
               have n0_ : Aside0 ((((((w111.setCell ⟨gb166, 0, none⟩ (.slice none 0 0)).setCell ⟨gb166, 1, none⟩ (.slice none 0 0)).setCell ⟨gb166, 2, none⟩ (.slice none 0 0)).setCell ⟨gb166, 3, none⟩ (.slice none 0 0)).setCell ⟨gb166, 4, none⟩ (.slice none 0 0)).heap[gb162]? = some (.cells #[.slice A0_0 l0_0.length c0_0, .slice A0_1 l0_1.length c0_1, .slice A0_2 l0_2.length c0_2, .slice A0_3 l0_3.length c0_3, .slice A0_4 l0_4.length c0_4] 28 (0, 0))) := ⟨by (with_reducible repeat (first | refine blk_drewN ?_ _ | refine blk_drew ?_ | refine blk_alloc ?_ _)); refine blk_far ?_ NB162_166.out _; (with_reducible repeat (first | refine blk_drewN ?_ _ | refine blk_drew ?_ | refine blk_alloc ?_ _)); refine blk_far ?_ NB162_166.out _; (with_reducible repeat (first | refine blk_drewN ?_ _ | refine blk_drew ?_ | refine blk_alloc ?_ _)); refine blk_far ?_ NB162_166.out _; (with_reducible repeat (first | refine blk_drewN ?_ _ | refine blk_drew ?_ | refine blk_alloc ?_ _)); refine blk_far ?_ NB162_166.out _; (with_reducible repeat (first | refine blk_drewN ?_ _ | refine blk_drew ?_ | refine blk_alloc ?_ _)); refine blk_far ?_ NB162_166.out _; (with_reducible repeat (first | refine blk_drewN ?_ _ | refine blk_drew ?_ | refine blk_alloc ?_ _)); exact BK162.out⟩
               have n1_ : Aside0 ((((((w111.setCell ⟨gb166, 0, none⟩ (.slice none 0 0)).setCell ⟨gb166, 1, none⟩ (.slice none 0 0)).setCell ⟨gb166, 2, none⟩ (.slice none 0 0)).setCell ⟨gb166, 3, none⟩ (.slice none 0 0)).setCell ⟨gb166, 4, none⟩ (.slice none 0 0)).heap[gb163]? = some (.cells #[.slice none 0 0, .slice none 0 0, .slice none 0 0, .slice none 0 0, .slice none 0 0] 28 (0, 0))) := ⟨by (with_reducible repeat (first | refine blk_drewN ?_ _ | refine blk_drew ?_ | refine blk_alloc ?_ _)); refine blk_far ?_ NB163_166.out _; (with_reducible repeat (first | refine blk_drewN ?_ _ | refine blk_drew ?_ | refine blk_alloc ?_ _)); refine blk_far ?_ NB163_166.out _; (with_reducible repeat (first | refine blk_drewN ?_ _ | refine blk_drew ?_ | refine blk_alloc ?_ _)); refine blk_far ?_ NB163_166.out _; (with_reducible repeat (first | refine blk_drewN ?_ _ | refine blk_drew ?_ | refine blk_alloc ?_ _)); refine blk_far ?_ NB163_166.out _; (with_reducible repeat (first | refine blk_drewN ?_ _ | refine blk_drew ?_ | refine blk_alloc ?_ _)); refine blk_far ?_ NB163_166.out _; (with_reducible repeat (first | refine blk_drewN ?_ _ | refine blk_drew ?_ | refine blk_alloc ?_ _)); exact BK163.out⟩
               have n2_ : Aside0 ((((((w111.setCell ⟨gb166, 0, none⟩ (.slice none 0 0)).setCell ⟨gb166, 1, none⟩ (.slice none 0 0)).setCell ⟨gb166, 2, none⟩ (.slice none 0 0)).setCell ⟨gb166, 3, none⟩ (.slice none 0 0)).setCell ⟨gb166, 4, none⟩ (.slice none 0 0)).heap[gb166]? = some (.cells #[.slice none 0 0, .slice none 0 0, .slice none 0 0, .slice none 0 0, .slice none 0 0] 28 (0, 0))) := ⟨by (with_reducible repeat (first | refine blk_drewN ?_ _ | refine blk_drew ?_ | refine blk_alloc ?_ _)); refine blk_put (cs := #[.slice none 0 0, .slice none 0 0, .slice none 0 0, .slice none 0 0, .slice none 0 0]) ?_ 4 _ rfl; (with_reducible repeat (first | refine blk_drewN ?_ _ | refine blk_drew ?_ | refine blk_alloc ?_ _)); refine blk_put (cs := #[.slice none 0 0, .slice none 0 0, .slice none 0 0, .slice none 0 0, .slice none 0 0]) ?_ 3 _ rfl; (with_reducible repeat (first | refine blk_drewN ?_ _ | refine blk_drew ?_ | refine blk_alloc ?_ _)); refine blk_put (cs := #[.slice none 0 0, .slice none 0 0, .slice none 0 0, .slice none 0 0, .slice none 0 0]) ?_ 2 _ rfl; (with_reducible repeat (first | refine blk_drewN ?_ _ | refine blk_drew ?_ | refine blk_alloc ?_ _)); refine blk_put (cs := #[.slice none 0 0, .slice none 0 0, .slice none 0 0, .slice none 0 0, .slice none 0 0]) ?_ 1 _ rfl; (with_reducible repeat (first | refine blk_drewN ?_ _ | refine blk_drew ?_ | refine blk_alloc ?_ _)); refine blk_put (cs := #[.slice none 0 0, .slice none 0 0, .slice none 0 0, .slice none 0 0, .slice none 0 0]) ?_ 0 _ rfl; (with_reducible repeat (first | refine blk_drewN ?_ _ | refine blk_drew ?_ | refine blk_alloc ?_ _)); exact BK166.out⟩
               have n3_ : Aside0 (Below w.heap.size w (((((w111.setCell ⟨gb166, 0, none⟩ (.slice none 0 0)).setCell ⟨gb166, 1, none⟩ (.slice none 0 0)).setCell ⟨gb166, 2, none⟩ (.slice none 0 0)).setCell ⟨gb166, 3, none⟩ (.slice none 0 0)).setCell ⟨gb166, 4, none⟩ (.slice none 0 0))) := ⟨by repeat (first | (with_reducible first | exact HB.out | apply below_alloc | apply pw_below_drewN | apply below_drew1 | refine below_set ?_ GE162.out | refine below_set ?_ GE163.out | refine below_set ?_ GE166.out) | exact HB.out)⟩
               (try clear BK162)
               (try clear BK163)
               (try clear BK166)
               (try clear HB)
               generalize (((((w111.setCell ⟨gb166, 0, none⟩ (.slice none 0 0)).setCell ⟨gb166, 1, none⟩ (.slice none 0 0)).setCell ⟨gb166, 2, none⟩ (.slice none 0 0)).setCell ⟨gb166, 3, none⟩ (.slice none 0 0)).setCell ⟨gb166, 4, none⟩ (.slice none 0 0)) = w115 at n0_ n1_ n2_ n3_ ⊢
               have BK162 := n0_
               have BK163 := n1_
               have BK166 := n2_
               have HB := n3_
               clear n0_ n1_ n2_ n3_
               have n0_ := Aside0.mk (blk_drew BK162.out)
               have n1_ := Aside0.mk (blk_drew BK163.out)
               have n2_ := Aside0.mk (blk_drew BK166.out)
               have n3_ := Aside0.mk (below_drew1 HB.out)
               clear BK162
               clear BK163
               clear BK166
               clear HB
               have BK162 := n0_
               have BK163 := n1_
               have BK166 := n2_
               have HB := n3_
               clear n0_ n1_ n2_ n3_
               obtain ⟨i0117, hi0117, _, hsz117, _⟩ := info_parts info9
               obtain ⟨hcut117, hA117, hC117⟩ := print_take_of (P := Try.prog) Value.string (⟨#[]⟩ : ByteArray) 25 9 .i64 Try.underlying25 hi0117 hsz117 A0_0 c0_0 l0_0 t164 (of_decide_eq_true (by first | (with_reducible assumption) | assumption)) (of_decide_eq_true (by first | (with_reducible assumption) | assumption)) HC0_0.out
               have HR167 := Aside0.mk (Kd.C_of_reads (h1 := fun _ => rfl) (hA117 _ (Kd.reads_of_C HR0_0.out)))
               have HC167 := Aside0.mk hC117
               clear hA117 hC117 hi0117 hsz117
               refine start_ (n := 9) (S := fun w' => w'.cell? ⟨gb166, 0, none⟩ = some (.slice none 0 0) ∧ w'.cell? ⟨gb166, 1, none⟩ = some (.slice none 0 0) ∧ w'.cell? ⟨gb166, 2, none⟩ = some (.slice none 0 0) ∧ w'.cell? ⟨gb166, 3, none⟩ = some (.slice none 0 0) ∧ w'.cell? ⟨gb166, 4, none⟩ = some (.slice none 0 0) ∧ w'.cell? ⟨gb162, 0, none⟩ = some (.slice A0_0 l0_0.length c0_0) ∧ w'.cell? ⟨gb162, 1, none⟩ = some (.slice A0_1 l0_1.length c0_1) ∧ w'.cell? ⟨gb162, 2, none⟩ = some (.slice A0_2 l0_2.length c0_2) ∧ w'.cell? ⟨gb162, 3, none⟩ = some (.slice A0_3 l0_3.length c0_3) ∧ w'.cell? ⟨gb162, 4, none⟩ = some (.slice A0_4 l0_4.length c0_4)) (ds := [8]) #[false, false, false, false, false, false, false, false, false] (by kernel_rfl) rfl rfl ⟨(blk_cell BK166.out 0).trans rfl, (blk_cell BK166.out 1).trans rfl, (blk_cell BK166.out 2).trans rfl, (blk_cell BK166.out 3).trans rfl, (blk_cell BK166.out 4).trans rfl, (blk_cell BK162.out 0).trans rfl, (blk_cell BK162.out 1).trans rfl, (blk_cell BK162.out 2).trans rfl, (blk_cell BK162.out 3).trans rfl, (blk_cell BK162.out 4).trans rfl⟩ (fun hHeld => ?_); refine with_tabW musterref03_Insert.tab3 musterref03_Insert.bits3 (fun HT_ HW_ => ?_)
               generalize w115.drew = w116 at BK162 BK163 BK166 HB HR167 hHeld ⊢
               refine pure_ (i := 0) (N := some 25) (v := ?_) (a' := ?_) #[true, false, false, false, false, false, false, false, false] rfl rfl (any_of HT_.out (by kernel_rfl)) (fun _ _ _ h => h) (Or.inl ⟨by rfl, ?_⟩) ?_ ?_
               rotate_left
               ·intro w'
                go_simp
                with_reducible rfl
               rotate_left
               ·simp only [Act.put, List.setIfInBounds_toArray, List.set_cons_zero, List.set_cons_succ, i64_w, i32_w]
                rfl
               refine pure_ (i := 2) (N := some 27) (v := ?_) (a' := ?_) #[true, false, true, false, false, false, false, false, false] rfl rfl (any_of HT_.out (by kernel_rfl)) (fun _ _ _ h => h) (Or.inl ⟨by rfl, ?_⟩) ?_ ?_
               rotate_left
               ·intro w'
                go_simp
                with_reducible rfl
               rotate_left
               ·simp only [Act.put, List.setIfInBounds_toArray, List.set_cons_zero, List.set_cons_succ, i64_w, i32_w]
                rfl
               refine pure_ (i := 4) (N := some 29) (v := ?_) (a' := ?_) #[true, false, true, false, true, false, false, false, false] rfl rfl (any_of HT_.out (by kernel_rfl)) (fun _ _ _ h => h) (Or.inl ⟨by rfl, ?_⟩) ?_ ?_
               rotate_left
               ·intro w'
                go_simp
                with_reducible rfl
               rotate_left
               ·simp only [Act.put, List.setIfInBounds_toArray, List.set_cons_zero, List.set_cons_succ, i64_w, i32_w]
                rfl
               refine take_ (i := 1) (N := some 26) (v := ?_) (a' := ?_) #[true, true, true, false, true, false, false, false, false] rfl rfl (take_ofW HT_.out HW_.out (by kernel_rfl)) (fun _ _ _ h => h) (Or.inl ⟨by rfl, ?_⟩) hHeld ?_ ?_
               rotate_left
               ·rintro w' ⟨s0, s1, s2, s3, s4, s5, s6, s7, s8, s9⟩
                go_simp
                with_reducible rfl
               rotate_left
               ·simp only [Act.put, List.setIfInBounds_toArray, List.set_cons_zero, List.set_cons_succ, i64_w, i32_w]
                rfl
               refine take_ (i := 3) (N := some 28) (v := ?_) (a' := ?_) #[true, true, true, true, true, false, false, false, false] rfl rfl (take_ofW HT_.out HW_.out (by kernel_rfl)) (fun _ _ _ h => h) (Or.inl ⟨by rfl, ?_⟩) hHeld ?_ ?_
               rotate_left
               ·rintro w' ⟨s0, s1, s2, s3, s4, s5, s6, s7, s8, s9⟩
                go_simp
                with_reducible rfl
               rotate_left
               ·simp only [Act.put, List.setIfInBounds_toArray, List.set_cons_zero, List.set_cons_succ, i64_w, i32_w]
                rfl
               refine pure_ (i := 5) (N := some 30) (v := ?_) (a' := ?_) #[true, true, true, true, true, true, false, false, false] rfl rfl (any_of HT_.out (by kernel_rfl)) (fun _ _ _ h => h) (Or.inl ⟨by rfl, ?_⟩) ?_ ?_
               rotate_left
               ·intro w'
                go_simp
                with_reducible rfl
               rotate_left
               ·simp only [Act.put, List.setIfInBounds_toArray, List.set_cons_zero, List.set_cons_succ, i64_w, i32_w]
                rfl
               refine one_ (i := 6) (N := some 31) #[true, true, true, true, true, true, true, false, false] rfl rfl (one_of HT_.out (by kernel_rfl)) (by decide) (fun K hK => ?_)
               refine Kd.R_append_rows_step Kd.string (w0 := w) w.heap.size (by rfl) (.tmp 26) (.tmp 30) 25 9 (.string ⟨#[]⟩) 16 rfl Try.underlying25 info9 rfl (by decide) (by omega) (.slice none 0 0) ([] : List ByteArray) (l0_0.take (t164 : Int).toNat) _ _ _ (fun _ => True) (fun _ => False) rfl rfl ?aO ?aR (fun _ _ h => h) (fun _ h => h.elim) ?aF ?aB ?aS ?aL ?_
               (case aR => first | (have hz_ := (Kd.C_below HR167.out HB.out); rw [show (l0_0.take (t164 : Int).toNat).length = t164.toNat from (by rw [List.length_take]; have h_ : (t164 : Int) ≤ (l0_0.length : Int) := of_decide_eq_true (by first | (with_reducible assumption) | assumption); omega)] at hz_; exact hz_) | (rw [← show (l0_0.take (t164 : Int).toNat).length = t164.toNat from (by rw [List.length_take]; have h_ : (t164 : Int) ≤ (l0_0.length : Int) := of_decide_eq_true (by first | (with_reducible assumption) | assumption); omega)]; repeat (first | exact (Kd.C_below HR167.out HB.out) | (with_reducible refine Kd.C_alloc ?_ _) | (with_reducible refine Kd.C_drewN ?_ _) | (with_reducible refine Kd.C_drew ?_)); done) | (repeat (first | exact (Kd.C_below HR167.out HB.out) | (with_reducible refine Kd.C_alloc ?_ _) | (with_reducible refine Kd.C_drewN ?_ _) | (with_reducible refine Kd.C_drew ?_))))
               (case aB => exact (by repeat (first | (with_reducible first | exact HB.out | apply below_alloc | apply pw_below_drewN | apply below_drew1 | refine below_set ?_ GE162.out | refine below_set ?_ GE163.out | refine below_set ?_ GE166.out) | exact HB.out)))
               (case aF => exact (fun _ _ => trivial))
               (case aO => exact ((Kd.R_nil _ _ _ _ (fun _ => True))))
               (case aS => exact (below_size (by repeat (first | (with_reducible first | exact HB.out | apply below_alloc | apply pw_below_drewN | apply below_drew1 | refine below_set ?_ GE162.out | refine below_set ?_ GE163.out | refine below_set ?_ GE166.out) | exact HB.out))))
               (case aL => have := LMc8.out; have hlx_ := (show (l0_0.take (t164 : Int).toNat).length = t164.toNat from (by rw [List.length_take]; have h_ : (t164 : Int) ≤ (l0_0.length : Int) := of_decide_eq_true (by first | (with_reducible assumption) | assumption); omega)); omega)
               intro v169 w118 ho hb hg hat
               rw [← Ny168.out] at ho
               have n0_ := Aside0.mk (blk_grown (g := gb162) (o := .cells #[.slice A0_0 l0_0.length c0_0, .slice A0_1 l0_1.length c0_1, .slice A0_2 l0_2.length c0_2, .slice A0_3 l0_3.length c0_3, .slice A0_4 l0_4.length c0_4] 28 (0, 0)) (by (with_reducible repeat (first | refine blk_drewN ?_ _ | refine blk_drew ?_ | refine blk_alloc ?_ _)); exact BK162.out) hg (by simp [Value.ownBlock]))
               have n1_ := Aside0.mk (blk_grown (g := gb163) (o := .cells #[.slice none 0 0, .slice none 0 0, .slice none 0 0, .slice none 0 0, .slice none 0 0] 28 (0, 0)) (by (with_reducible repeat (first | refine blk_drewN ?_ _ | refine blk_drew ?_ | refine blk_alloc ?_ _)); exact BK163.out) hg (by simp [Value.ownBlock]))
               have n2_ := Aside0.mk (blk_grown (g := gb166) (o := .cells #[.slice none 0 0, .slice none 0 0, .slice none 0 0, .slice none 0 0, .slice none 0 0] 28 (0, 0)) (by (with_reducible repeat (first | refine blk_drewN ?_ _ | refine blk_drew ?_ | refine blk_alloc ?_ _)); exact BK166.out) hg (by simp [Value.ownBlock]))
               have n3_ := Aside0.mk (hb)
               have n4_ := Aside0.mk (ho)
               clear BK162
               clear BK163
               clear BK166
               clear HB
               have BK162 := n0_
               have BK163 := n1_
               have BK166 := n2_
               have HB := n3_
               have HO170 := n4_
               clear n0_ n1_ n2_ n3_ n4_
               clear ho hb hg hat
               obtain ⟨Ao119, co119, eo119⟩ := Kd.R_slice HO170.out
               (first | subst eo119 | (injection eo119 with f1_ f2_ f3_; have f4_ := f1_.symm; have f5_ := f3_.symm; clear f1_ f2_ f3_; subst f4_; subst f5_))
               refine hK.out _ _ ⟨(blk_cell BK166.out 0).trans rfl, (blk_cell BK166.out 1).trans rfl, (blk_cell BK166.out 2).trans rfl, (blk_cell BK166.out 3).trans rfl, (blk_cell BK166.out 4).trans rfl, (blk_cell BK162.out 0).trans rfl, (blk_cell BK162.out 1).trans rfl, (blk_cell BK162.out 2).trans rfl, (blk_cell BK162.out 3).trans rfl, (blk_cell BK162.out 4).trans rfl⟩ (fun hHeld => ?_)
               clear hK K
               refine norm_ (a' := ?_) ?_ ?_
               rotate_left
               ·show Act.put _ (some 31) _ = _
                simp only [Act.put, List.setIfInBounds_toArray, List.set_cons_zero, List.set_cons_succ, i64_w, i32_w]
                rfl
               refine pure_ (i := 7) (N := some 32) (v := ?_) (a' := ?_) #[true, true, true, true, true, true, true, true, false] rfl rfl (any_of HT_.out (by kernel_rfl)) (fun _ _ _ h => h) (Or.inl ⟨by rfl, ?_⟩) ?_ ?_
               rotate_left
               ·intro w'
                go_simp
                with_reducible rfl
               rotate_left
               ·simp only [Act.put, List.setIfInBounds_toArray, List.set_cons_zero, List.set_cons_succ, i64_w, i32_w]
                rfl
               refine last_ (i := 8) (N := none) #[true, true, true, true, true, true, true, true, true] rfl rfl (one_of HT_.out (by kernel_rfl)) (by decide) (fun K hK => ?_)
               have hs120 : w118.cell? ⟨gb166, 0, none⟩ = some (.slice none 0 0) := (blk_cell BK166.out 0).trans rfl
               have hfs120 := blk_frozen BK166.out 0
               have hns120_0 := NB162_166.out
               have hns120_1 := NB163_166.out
               have hms120_0 := NB166_162.out
               have hms120_1 := NB166_163.out
               refine skip_ (w1 := ?_) (by rfl) rfl ?_ ?_
               rotate_left
               ·go_simp
                rfl
               refine hK.out _ _ ?_
               clear hK K
               refine done_ (done_of HT_.out (by kernel_rfl)) ?_
               try go_wp2
               have n0_ : Aside0 (Kd.R Kd.string 9 (w118.setCell ⟨gb166, 0, none⟩ (.slice Ao119 y168.length co119)) w.heap.size (fun _ => True) (.slice Ao119 y168.length co119) y168) := ⟨by (with_reducible repeat (first | apply Kd.R_alloc | apply Kd.R_drewN | apply Kd.R_drew)); exact Kd.R_mono (Kd.R_far (p := ⟨gb166, 0, none⟩) (Kd.R_types HO170.out BK166.out (by decide)) (fun _ hk => hk.2) (.slice Ao119 y168.length co119)) (fun _ hk => trivial)⟩
               have n1_ : Aside0 ((w118.setCell ⟨gb166, 0, none⟩ (.slice Ao119 y168.length co119)).heap[gb162]? = some (.cells #[.slice A0_0 l0_0.length c0_0, .slice A0_1 l0_1.length c0_1, .slice A0_2 l0_2.length c0_2, .slice A0_3 l0_3.length c0_3, .slice A0_4 l0_4.length c0_4] 28 (0, 0))) := ⟨by (with_reducible repeat (first | refine blk_drewN ?_ _ | refine blk_drew ?_ | refine blk_alloc ?_ _)); refine blk_far ?_ NB162_166.out _; (with_reducible repeat (first | refine blk_drewN ?_ _ | refine blk_drew ?_ | refine blk_alloc ?_ _)); exact BK162.out⟩
               have n2_ : Aside0 ((w118.setCell ⟨gb166, 0, none⟩ (.slice Ao119 y168.length co119)).heap[gb163]? = some (.cells #[.slice none 0 0, .slice none 0 0, .slice none 0 0, .slice none 0 0, .slice none 0 0] 28 (0, 0))) := ⟨by (with_reducible repeat (first | refine blk_drewN ?_ _ | refine blk_drew ?_ | refine blk_alloc ?_ _)); refine blk_far ?_ NB163_166.out _; (with_reducible repeat (first | refine blk_drewN ?_ _ | refine blk_drew ?_ | refine blk_alloc ?_ _)); exact BK163.out⟩
               have n3_ : Aside0 ((w118.setCell ⟨gb166, 0, none⟩ (.slice Ao119 y168.length co119)).heap[gb166]? = some (.cells #[.slice Ao119 y168.length co119, .slice none 0 0, .slice none 0 0, .slice none 0 0, .slice none 0 0] 28 (0, 0))) := ⟨by (with_reducible repeat (first | refine blk_drewN ?_ _ | refine blk_drew ?_ | refine blk_alloc ?_ _)); refine blk_put (cs := #[.slice none 0 0, .slice none 0 0, .slice none 0 0, .slice none 0 0, .slice none 0 0]) ?_ 0 _ rfl; (with_reducible repeat (first | refine blk_drewN ?_ _ | refine blk_drew ?_ | refine blk_alloc ?_ _)); exact BK166.out⟩
               have n4_ : Aside0 (Below w.heap.size w (w118.setCell ⟨gb166, 0, none⟩ (.slice Ao119 y168.length co119))) := ⟨by repeat (first | (with_reducible first | exact HB.out | apply below_alloc | apply pw_below_drewN | apply below_drew1 | refine below_set ?_ GE162.out | refine below_set ?_ GE163.out | refine below_set ?_ GE166.out) | exact HB.out)⟩
               (try clear HO170)
               (try clear BK162)
               (try clear BK163)
               (try clear BK166)
               (try clear HB)
               generalize (w118.setCell ⟨gb166, 0, none⟩ (.slice Ao119 y168.length co119)) = w121 at n0_ n1_ n2_ n3_ n4_ ⊢
               have HO170 := n0_
               have BK162 := n1_
               have BK163 := n2_
               have BK166 := n3_
               have HB := n4_
               clear n0_ n1_ n2_ n3_ n4_
               have n0_ := Aside0.mk (Kd.R_drew HO170.out)
               have n1_ := Aside0.mk (blk_drew BK162.out)
               have n2_ := Aside0.mk (blk_drew BK163.out)
               have n3_ := Aside0.mk (blk_drew BK166.out)
               have n4_ := Aside0.mk (below_drew1 HB.out)
               clear HO170
               clear BK162
               clear BK163
               clear BK166
               clear HB
               have HO170 := n0_
               have BK162 := n1_
               have BK163 := n2_
               have BK166 := n3_
               have HB := n4_
               clear n0_ n1_ n2_ n3_ n4_
               obtain ⟨i0123, hi0123, _, hsz123, _⟩ := info_parts info3
               obtain ⟨hcut123, hA123, hC123⟩ := print_take_of (P := Try.prog) (Value.int .i64) 0 26 3 .i64 Try.underlying26 hi0123 hsz123 A0_1 c0_1 l0_1 t164 (of_decide_eq_true (by first | (with_reducible assumption) | assumption)) (of_decide_eq_true (by first | (with_reducible assumption) | assumption)) HC0_1.out
               have HR171 := Aside0.mk (Kd.C_of_reads (h1 := fun _ => rfl) (hA123 _ (Kd.reads_of_C HR0_1.out)))
               have HC171 := Aside0.mk hC123
               clear hA123 hC123 hi0123 hsz123
               refine start_ (n := 9) (S := fun w' => w'.cell? ⟨gb166, 0, none⟩ = some (.slice Ao119 y168.length co119) ∧ w'.cell? ⟨gb166, 1, none⟩ = some (.slice none 0 0) ∧ w'.cell? ⟨gb166, 2, none⟩ = some (.slice none 0 0) ∧ w'.cell? ⟨gb166, 3, none⟩ = some (.slice none 0 0) ∧ w'.cell? ⟨gb166, 4, none⟩ = some (.slice none 0 0) ∧ w'.cell? ⟨gb162, 0, none⟩ = some (.slice A0_0 l0_0.length c0_0) ∧ w'.cell? ⟨gb162, 1, none⟩ = some (.slice A0_1 l0_1.length c0_1) ∧ w'.cell? ⟨gb162, 2, none⟩ = some (.slice A0_2 l0_2.length c0_2) ∧ w'.cell? ⟨gb162, 3, none⟩ = some (.slice A0_3 l0_3.length c0_3) ∧ w'.cell? ⟨gb162, 4, none⟩ = some (.slice A0_4 l0_4.length c0_4)) (ds := [8]) #[false, false, false, false, false, false, false, false, false] (by kernel_rfl) rfl rfl ⟨(blk_cell BK166.out 0).trans rfl, (blk_cell BK166.out 1).trans rfl, (blk_cell BK166.out 2).trans rfl, (blk_cell BK166.out 3).trans rfl, (blk_cell BK166.out 4).trans rfl, (blk_cell BK162.out 0).trans rfl, (blk_cell BK162.out 1).trans rfl, (blk_cell BK162.out 2).trans rfl, (blk_cell BK162.out 3).trans rfl, (blk_cell BK162.out 4).trans rfl⟩ (fun hHeld => ?_); refine with_tabW musterref03_Insert.tab4 musterref03_Insert.bits4 (fun HT_ HW_ => ?_)
               generalize w121.drew = w122 at HO170 BK162 BK163 BK166 HB HR171 hHeld ⊢
               refine pure_ (i := 0) (N := some 33) (v := ?_) (a' := ?_) #[true, false, false, false, false, false, false, false, false] rfl rfl (any_of HT_.out (by kernel_rfl)) (fun _ _ _ h => h) (Or.inl ⟨by rfl, ?_⟩) ?_ ?_
               rotate_left
               ·intro w'
                go_simp
                with_reducible rfl
               rotate_left
               ·simp only [Act.put, List.setIfInBounds_toArray, List.set_cons_zero, List.set_cons_succ, i64_w, i32_w]
                rfl
               refine pure_ (i := 2) (N := some 35) (v := ?_) (a' := ?_) #[true, false, true, false, false, false, false, false, false] rfl rfl (any_of HT_.out (by kernel_rfl)) (fun _ _ _ h => h) (Or.inl ⟨by rfl, ?_⟩) ?_ ?_
               rotate_left
               ·intro w'
                go_simp
                with_reducible rfl
               rotate_left
               ·simp only [Act.put, List.setIfInBounds_toArray, List.set_cons_zero, List.set_cons_succ, i64_w, i32_w]
                rfl
               refine pure_ (i := 4) (N := some 37) (v := ?_) (a' := ?_) #[true, false, true, false, true, false, false, false, false] rfl rfl (any_of HT_.out (by kernel_rfl)) (fun _ _ _ h => h) (Or.inl ⟨by rfl, ?_⟩) ?_ ?_
               rotate_left
               ·intro w'
                go_simp
                with_reducible rfl
               rotate_left
               ·simp only [Act.put, List.setIfInBounds_toArray, List.set_cons_zero, List.set_cons_succ, i64_w, i32_w]
                rfl
               refine take_ (i := 1) (N := some 34) (v := ?_) (a' := ?_) #[true, true, true, false, true, false, false, false, false] rfl rfl (take_ofW HT_.out HW_.out (by kernel_rfl)) (fun _ _ _ h => h) (Or.inl ⟨by rfl, ?_⟩) hHeld ?_ ?_
               rotate_left
               ·rintro w' ⟨s0, s1, s2, s3, s4, s5, s6, s7, s8, s9⟩
                go_simp
                with_reducible rfl
               rotate_left
               ·simp only [Act.put, List.setIfInBounds_toArray, List.set_cons_zero, List.set_cons_succ, i64_w, i32_w]
                rfl
               refine take_ (i := 3) (N := some 36) (v := ?_) (a' := ?_) #[true, true, true, true, true, false, false, false, false] rfl rfl (take_ofW HT_.out HW_.out (by kernel_rfl)) (fun _ _ _ h => h) (Or.inl ⟨by rfl, ?_⟩) hHeld ?_ ?_
               rotate_left
               ·rintro w' ⟨s0, s1, s2, s3, s4, s5, s6, s7, s8, s9⟩
                go_simp
                with_reducible rfl
               rotate_left
               ·simp only [Act.put, List.setIfInBounds_toArray, List.set_cons_zero, List.set_cons_succ, i64_w, i32_w]
                rfl
               refine pure_ (i := 5) (N := some 38) (v := ?_) (a' := ?_) #[true, true, true, true, true, true, false, false, false] rfl rfl (any_of HT_.out (by kernel_rfl)) (fun _ _ _ h => h) (Or.inl ⟨by rfl, ?_⟩) ?_ ?_
               rotate_left
               ·intro w'
                go_simp
                with_reducible rfl
               rotate_left
               ·simp only [Act.put, List.setIfInBounds_toArray, List.set_cons_zero, List.set_cons_succ, i64_w, i32_w]
                rfl
               refine one_ (i := 6) (N := some 39) #[true, true, true, true, true, true, true, false, false] rfl rfl (one_of HT_.out (by kernel_rfl)) (by decide) (fun K hK => ?_)
               refine Kd.R_append_rows_step (Kd.int .i64) (w0 := w) w.heap.size (by rfl) (.tmp 34) (.tmp 38) 26 3 (.int .i64 0) 8 rfl Try.underlying26 info3 rfl (by decide) (by omega) (.slice none 0 0) ([] : List Int) (l0_1.take (t164 : Int).toNat) _ _ _ (fun _ => True) (fun _ => False) rfl rfl ?aO ?aR (fun _ _ h => h) (fun _ h => h.elim) ?aF ?aB ?aS ?aL ?_
               (case aR => first | (have hz_ := (Kd.C_below HR171.out HB.out); rw [show (l0_1.take (t164 : Int).toNat).length = t164.toNat from (by rw [List.length_take]; have h_ : (t164 : Int) ≤ (l0_1.length : Int) := of_decide_eq_true (by first | (with_reducible assumption) | assumption); omega)] at hz_; exact hz_) | (rw [← show (l0_1.take (t164 : Int).toNat).length = t164.toNat from (by rw [List.length_take]; have h_ : (t164 : Int) ≤ (l0_1.length : Int) := of_decide_eq_true (by first | (with_reducible assumption) | assumption); omega)]; repeat (first | exact (Kd.C_below HR171.out HB.out) | (with_reducible refine Kd.C_alloc ?_ _) | (with_reducible refine Kd.C_drewN ?_ _) | (with_reducible refine Kd.C_drew ?_)); done) | (repeat (first | exact (Kd.C_below HR171.out HB.out) | (with_reducible refine Kd.C_alloc ?_ _) | (with_reducible refine Kd.C_drewN ?_ _) | (with_reducible refine Kd.C_drew ?_))))
               (case aB => exact (by repeat (first | (with_reducible first | exact HB.out | apply below_alloc | apply pw_below_drewN | apply below_drew1 | refine below_set ?_ GE162.out | refine below_set ?_ GE163.out | refine below_set ?_ GE166.out) | exact HB.out)))
               (case aF => exact (fun _ _ => trivial))
               (case aO => exact ((Kd.R_nil _ _ _ _ (fun _ => True))))
               (case aS => exact (below_size (by repeat (first | (with_reducible first | exact HB.out | apply below_alloc | apply pw_below_drewN | apply below_drew1 | refine below_set ?_ GE162.out | refine below_set ?_ GE163.out | refine below_set ?_ GE166.out) | exact HB.out))))
               (case aL => have := LMc11.out; have hlx_ := (show (l0_1.take (t164 : Int).toNat).length = t164.toNat from (by rw [List.length_take]; have h_ : (t164 : Int) ≤ (l0_1.length : Int) := of_decide_eq_true (by first | (with_reducible assumption) | assumption); omega)); omega)
               intro v173 w124 ho hb hg hat
               rw [← Ny172.out] at ho
               have n0_ := Aside0.mk (blk_grown (g := gb162) (o := .cells #[.slice A0_0 l0_0.length c0_0, .slice A0_1 l0_1.length c0_1, .slice A0_2 l0_2.length c0_2, .slice A0_3 l0_3.length c0_3, .slice A0_4 l0_4.length c0_4] 28 (0, 0)) (by (with_reducible repeat (first | refine blk_drewN ?_ _ | refine blk_drew ?_ | refine blk_alloc ?_ _)); exact BK162.out) hg (by simp [Value.ownBlock]))
               have n1_ := Aside0.mk (blk_grown (g := gb163) (o := .cells #[.slice none 0 0, .slice none 0 0, .slice none 0 0, .slice none 0 0, .slice none 0 0] 28 (0, 0)) (by (with_reducible repeat (first | refine blk_drewN ?_ _ | refine blk_drew ?_ | refine blk_alloc ?_ _)); exact BK163.out) hg (by simp [Value.ownBlock]))
               have n2_ := Aside0.mk (blk_grown (g := gb166) (o := .cells #[.slice Ao119 y168.length co119, .slice none 0 0, .slice none 0 0, .slice none 0 0, .slice none 0 0] 28 (0, 0)) (by (with_reducible repeat (first | refine blk_drewN ?_ _ | refine blk_drew ?_ | refine blk_alloc ?_ _)); exact BK166.out) hg (by simp [Value.ownBlock]))
               have n3_ := Aside0.mk (Kd.R_grown (by (with_reducible repeat (first | apply Kd.R_alloc | apply Kd.R_drewN | apply Kd.R_drew)); exact HO170.out) hg (fun _ _ => by simp [Value.ownBlock]))
               have n4_ := Aside0.mk (hb)
               have n5_ := Aside0.mk (ho)
               clear BK162
               clear BK163
               clear BK166
               clear HO170
               clear HB
               have BK162 := n0_
               have BK163 := n1_
               have BK166 := n2_
               have HO170 := n3_
               have HB := n4_
               have HO174 := n5_
               clear n0_ n1_ n2_ n3_ n4_ n5_
               clear ho hb hg hat
               obtain ⟨Ao125, co125, eo125⟩ := Kd.R_slice HO174.out
               (first | subst eo125 | (injection eo125 with f1_ f2_ f3_; have f4_ := f1_.symm; have f5_ := f3_.symm; clear f1_ f2_ f3_; subst f4_; subst f5_))
               refine hK.out _ _ ⟨(blk_cell BK166.out 0).trans rfl, (blk_cell BK166.out 1).trans rfl, (blk_cell BK166.out 2).trans rfl, (blk_cell BK166.out 3).trans rfl, (blk_cell BK166.out 4).trans rfl, (blk_cell BK162.out 0).trans rfl, (blk_cell BK162.out 1).trans rfl, (blk_cell BK162.out 2).trans rfl, (blk_cell BK162.out 3).trans rfl, (blk_cell BK162.out 4).trans rfl⟩ (fun hHeld => ?_)
               clear hK K
               refine norm_ (a' := ?_) ?_ ?_
               rotate_left
               ·show Act.put _ (some 39) _ = _
                simp only [Act.put, List.setIfInBounds_toArray, List.set_cons_zero, List.set_cons_succ, i64_w, i32_w]
                rfl
               refine pure_ (i := 7) (N := some 40) (v := ?_) (a' := ?_) #[true, true, true, true, true, true, true, true, false] rfl rfl (any_of HT_.out (by kernel_rfl)) (fun _ _ _ h => h) (Or.inl ⟨by rfl, ?_⟩) ?_ ?_
               rotate_left
               ·intro w'
                go_simp
                with_reducible rfl
               rotate_left
               ·simp only [Act.put, List.setIfInBounds_toArray, List.set_cons_zero, List.set_cons_succ, i64_w, i32_w]
                rfl
               refine last_ (i := 8) (N := none) #[true, true, true, true, true, true, true, true, true] rfl rfl (one_of HT_.out (by kernel_rfl)) (by decide) (fun K hK => ?_)
               have hs126 : w124.cell? ⟨gb166, 1, none⟩ = some (.slice none 0 0) := (blk_cell BK166.out 1).trans rfl
               have hfs126 := blk_frozen BK166.out 1
               have hns126_0 := NB162_166.out
               have hns126_1 := NB163_166.out
               have hms126_0 := NB166_162.out
               have hms126_1 := NB166_163.out
               refine skip_ (w1 := ?_) (by rfl) rfl ?_ ?_
               rotate_left
               ·go_simp
                rfl
               refine hK.out _ _ ?_
               clear hK K
               refine done_ (done_of HT_.out (by kernel_rfl)) ?_
               try go_wp2
               have n0_ : Aside0 (Kd.R Kd.string 9 (w124.setCell ⟨gb166, 1, none⟩ (.slice Ao125 y172.length co125)) w.heap.size (fun _ => True) (.slice Ao119 y168.length co119) y168) := ⟨by (with_reducible repeat (first | apply Kd.R_alloc | apply Kd.R_drewN | apply Kd.R_drew)); exact Kd.R_mono (Kd.R_far (p := ⟨gb166, 1, none⟩) (Kd.R_types HO170.out BK166.out (by decide)) (fun _ hk => hk.2) (.slice Ao125 y172.length co125)) (fun _ hk => trivial)⟩
               have n1_ : Aside0 (Kd.R (Kd.int .i64) 3 (w124.setCell ⟨gb166, 1, none⟩ (.slice Ao125 y172.length co125)) w.heap.size (fun _ => True) (.slice Ao125 y172.length co125) y172) := ⟨by (with_reducible repeat (first | apply Kd.R_alloc | apply Kd.R_drewN | apply Kd.R_drew)); exact Kd.R_mono (Kd.R_far (p := ⟨gb166, 1, none⟩) (Kd.R_types HO174.out BK166.out (by decide)) (fun _ hk => hk.2) (.slice Ao125 y172.length co125)) (fun _ hk => trivial)⟩
               have n2_ : Aside0 ((w124.setCell ⟨gb166, 1, none⟩ (.slice Ao125 y172.length co125)).heap[gb162]? = some (.cells #[.slice A0_0 l0_0.length c0_0, .slice A0_1 l0_1.length c0_1, .slice A0_2 l0_2.length c0_2, .slice A0_3 l0_3.length c0_3, .slice A0_4 l0_4.length c0_4] 28 (0, 0))) := ⟨by (with_reducible repeat (first | refine blk_drewN ?_ _ | refine blk_drew ?_ | refine blk_alloc ?_ _)); refine blk_far ?_ NB162_166.out _; (with_reducible repeat (first | refine blk_drewN ?_ _ | refine blk_drew ?_ | refine blk_alloc ?_ _)); exact BK162.out⟩
               have n3_ : Aside0 ((w124.setCell ⟨gb166, 1, none⟩ (.slice Ao125 y172.length co125)).heap[gb163]? = some (.cells #[.slice none 0 0, .slice none 0 0, .slice none 0 0, .slice none 0 0, .slice none 0 0] 28 (0, 0))) := ⟨by (with_reducible repeat (first | refine blk_drewN ?_ _ | refine blk_drew ?_ | refine blk_alloc ?_ _)); refine blk_far ?_ NB163_166.out _; (with_reducible repeat (first | refine blk_drewN ?_ _ | refine blk_drew ?_ | refine blk_alloc ?_ _)); exact BK163.out⟩
               have n4_ : Aside0 ((w124.setCell ⟨gb166, 1, none⟩ (.slice Ao125 y172.length co125)).heap[gb166]? = some (.cells #[.slice Ao119 y168.length co119, .slice Ao125 y172.length co125, .slice none 0 0, .slice none 0 0, .slice none 0 0] 28 (0, 0))) := ⟨by (with_reducible repeat (first | refine blk_drewN ?_ _ | refine blk_drew ?_ | refine blk_alloc ?_ _)); refine blk_put (cs := #[.slice Ao119 y168.length co119, .slice none 0 0, .slice none 0 0, .slice none 0 0, .slice none 0 0]) ?_ 1 _ rfl; (with_reducible repeat (first | refine blk_drewN ?_ _ | refine blk_drew ?_ | refine blk_alloc ?_ _)); exact BK166.out⟩
               have n5_ : Aside0 (Below w.heap.size w (w124.setCell ⟨gb166, 1, none⟩ (.slice Ao125 y172.length co125))) := ⟨by repeat (first | (with_reducible first | exact HB.out | apply below_alloc | apply pw_below_drewN | apply below_drew1 | refine below_set ?_ GE162.out | refine below_set ?_ GE163.out | refine below_set ?_ GE166.out) | exact HB.out)⟩
               (try clear HO170)
               (try clear HO174)
               (try clear BK162)
               (try clear BK163)
               (try clear BK166)
               (try clear HB)
               generalize (w124.setCell ⟨gb166, 1, none⟩ (.slice Ao125 y172.length co125)) = w127 at n0_ n1_ n2_ n3_ n4_ n5_ ⊢
               have HO170 := n0_
               have HO174 := n1_
               have BK162 := n2_
               have BK163 := n3_
               have BK166 := n4_
               have HB := n5_
               clear n0_ n1_ n2_ n3_ n4_ n5_
               have n0_ := Aside0.mk (Kd.R_drew HO170.out)
               have n1_ := Aside0.mk (Kd.R_drew HO174.out)
               have n2_ := Aside0.mk (blk_drew BK162.out)
               have n3_ := Aside0.mk (blk_drew BK163.out)
               have n4_ := Aside0.mk (blk_drew BK166.out)
               have n5_ := Aside0.mk (below_drew1 HB.out)
               clear HO170
               clear HO174
               clear BK162
               clear BK163
               clear BK166
               clear HB
               have HO170 := n0_
               have HO174 := n1_
               have BK162 := n2_
               have BK163 := n3_
               have BK166 := n4_
               have HB := n5_
               clear n0_ n1_ n2_ n3_ n4_ n5_
               obtain ⟨i0129, hi0129, _, hsz129, _⟩ := info_parts info3
               obtain ⟨hcut129, hA129, hC129⟩ := print_take_of (P := Try.prog) (Value.int .i64) 0 26 3 .i64 Try.underlying26 hi0129 hsz129 A0_2 c0_2 l0_2 t164 (of_decide_eq_true (by first | (with_reducible assumption) | assumption)) (of_decide_eq_true (by first | (with_reducible assumption) | assumption)) HC0_2.out
               have HR175 := Aside0.mk (Kd.C_of_reads (h1 := fun _ => rfl) (hA129 _ (Kd.reads_of_C HR0_2.out)))
               have HC175 := Aside0.mk hC129
               clear hA129 hC129 hi0129 hsz129
               refine start_ (n := 9) (S := fun w' => w'.cell? ⟨gb166, 0, none⟩ = some (.slice Ao119 y168.length co119) ∧ w'.cell? ⟨gb166, 1, none⟩ = some (.slice Ao125 y172.length co125) ∧ w'.cell? ⟨gb166, 2, none⟩ = some (.slice none 0 0) ∧ w'.cell? ⟨gb166, 3, none⟩ = some (.slice none 0 0) ∧ w'.cell? ⟨gb166, 4, none⟩ = some (.slice none 0 0) ∧ w'.cell? ⟨gb162, 0, none⟩ = some (.slice A0_0 l0_0.length c0_0) ∧ w'.cell? ⟨gb162, 1, none⟩ = some (.slice A0_1 l0_1.length c0_1) ∧ w'.cell? ⟨gb162, 2, none⟩ = some (.slice A0_2 l0_2.length c0_2) ∧ w'.cell? ⟨gb162, 3, none⟩ = some (.slice A0_3 l0_3.length c0_3) ∧ w'.cell? ⟨gb162, 4, none⟩ = some (.slice A0_4 l0_4.length c0_4)) (ds := [8]) #[false, false, false, false, false, false, false, false, false] (by kernel_rfl) rfl rfl ⟨(blk_cell BK166.out 0).trans rfl, (blk_cell BK166.out 1).trans rfl, (blk_cell BK166.out 2).trans rfl, (blk_cell BK166.out 3).trans rfl, (blk_cell BK166.out 4).trans rfl, (blk_cell BK162.out 0).trans rfl, (blk_cell BK162.out 1).trans rfl, (blk_cell BK162.out 2).trans rfl, (blk_cell BK162.out 3).trans rfl, (blk_cell BK162.out 4).trans rfl⟩ (fun hHeld => ?_); refine with_tabW musterref03_Insert.tab5 musterref03_Insert.bits5 (fun HT_ HW_ => ?_)
               generalize w127.drew = w128 at HO170 HO174 BK162 BK163 BK166 HB HR175 hHeld ⊢
               refine pure_ (i := 0) (N := some 41) (v := ?_) (a' := ?_) #[true, false, false, false, false, false, false, false, false] rfl rfl (any_of HT_.out (by kernel_rfl)) (fun _ _ _ h => h) (Or.inl ⟨by rfl, ?_⟩) ?_ ?_
               rotate_left
               ·intro w'
                go_simp
                with_reducible rfl
               rotate_left
               ·simp only [Act.put, List.setIfInBounds_toArray, List.set_cons_zero, List.set_cons_succ, i64_w, i32_w]
                rfl
               refine pure_ (i := 2) (N := some 43) (v := ?_) (a' := ?_) #[true, false, true, false, false, false, false, false, false] rfl rfl (any_of HT_.out (by kernel_rfl)) (fun _ _ _ h => h) (Or.inl ⟨by rfl, ?_⟩) ?_ ?_
               rotate_left
               ·intro w'
                go_simp
                with_reducible rfl
               rotate_left
               ·simp only [Act.put, List.setIfInBounds_toArray, List.set_cons_zero, List.set_cons_succ, i64_w, i32_w]
                rfl
               refine pure_ (i := 4) (N := some 45) (v := ?_) (a' := ?_) #[true, false, true, false, true, false, false, false, false] rfl rfl (any_of HT_.out (by kernel_rfl)) (fun _ _ _ h => h) (Or.inl ⟨by rfl, ?_⟩) ?_ ?_
               rotate_left
               ·intro w'
                go_simp
                with_reducible rfl
               rotate_left
               ·simp only [Act.put, List.setIfInBounds_toArray, List.set_cons_zero, List.set_cons_succ, i64_w, i32_w]
                rfl
               refine take_ (i := 1) (N := some 42) (v := ?_) (a' := ?_) #[true, true, true, false, true, false, false, false, false] rfl rfl (take_ofW HT_.out HW_.out (by kernel_rfl)) (fun _ _ _ h => h) (Or.inl ⟨by rfl, ?_⟩) hHeld ?_ ?_
               rotate_left
               ·rintro w' ⟨s0, s1, s2, s3, s4, s5, s6, s7, s8, s9⟩
                go_simp
                with_reducible rfl
               rotate_left
               ·simp only [Act.put, List.setIfInBounds_toArray, List.set_cons_zero, List.set_cons_succ, i64_w, i32_w]
                rfl
               refine take_ (i := 3) (N := some 44) (v := ?_) (a' := ?_) #[true, true, true, true, true, false, false, false, false] rfl rfl (take_ofW HT_.out HW_.out (by kernel_rfl)) (fun _ _ _ h => h) (Or.inl ⟨by rfl, ?_⟩) hHeld ?_ ?_
               rotate_left
               ·rintro w' ⟨s0, s1, s2, s3, s4, s5, s6, s7, s8, s9⟩
                go_simp
                with_reducible rfl
               rotate_left
               ·simp only [Act.put, List.setIfInBounds_toArray, List.set_cons_zero, List.set_cons_succ, i64_w, i32_w]
                rfl
               refine pure_ (i := 5) (N := some 46) (v := ?_) (a' := ?_) #[true, true, true, true, true, true, false, false, false] rfl rfl (any_of HT_.out (by kernel_rfl)) (fun _ _ _ h => h) (Or.inl ⟨by rfl, ?_⟩) ?_ ?_
               rotate_left
               ·intro w'
                go_simp
                with_reducible rfl
               rotate_left
               ·simp only [Act.put, List.setIfInBounds_toArray, List.set_cons_zero, List.set_cons_succ, i64_w, i32_w]
                rfl
               refine one_ (i := 6) (N := some 47) #[true, true, true, true, true, true, true, false, false] rfl rfl (one_of HT_.out (by kernel_rfl)) (by decide) (fun K hK => ?_)
               refine Kd.R_append_rows_step (Kd.int .i64) (w0 := w) w.heap.size (by rfl) (.tmp 42) (.tmp 46) 26 3 (.int .i64 0) 8 rfl Try.underlying26 info3 rfl (by decide) (by omega) (.slice none 0 0) ([] : List Int) (l0_2.take (t164 : Int).toNat) _ _ _ (fun k_ => some k_ ≠ (.slice Ao125 y172.length co125 : Value).ownBlock) (fun _ => False) rfl rfl ?aO ?aR (fun _ _ h => h) (fun _ h => h.elim) ?aF ?aB ?aS ?aL ?_
               (case aR => first | (have hz_ := (Kd.C_below HR175.out HB.out); rw [show (l0_2.take (t164 : Int).toNat).length = t164.toNat from (by rw [List.length_take]; have h_ : (t164 : Int) ≤ (l0_2.length : Int) := of_decide_eq_true (by first | (with_reducible assumption) | assumption); omega)] at hz_; exact hz_) | (rw [← show (l0_2.take (t164 : Int).toNat).length = t164.toNat from (by rw [List.length_take]; have h_ : (t164 : Int) ≤ (l0_2.length : Int) := of_decide_eq_true (by first | (with_reducible assumption) | assumption); omega)]; repeat (first | exact (Kd.C_below HR175.out HB.out) | (with_reducible refine Kd.C_alloc ?_ _) | (with_reducible refine Kd.C_drewN ?_ _) | (with_reducible refine Kd.C_drew ?_)); done) | (repeat (first | exact (Kd.C_below HR175.out HB.out) | (with_reducible refine Kd.C_alloc ?_ _) | (with_reducible refine Kd.C_drewN ?_ _) | (with_reducible refine Kd.C_drew ?_))))
               (case aB => exact (by repeat (first | (with_reducible first | exact HB.out | apply below_alloc | apply pw_below_drewN | apply below_drew1 | refine below_set ?_ GE162.out | refine below_set ?_ GE163.out | refine below_set ?_ GE166.out) | exact HB.out)))
               (case aF => exact (fun k_ hk => Kd.fresh' (Kd.R_lt (by (with_reducible repeat (first | apply Kd.R_alloc | apply Kd.R_drewN | apply Kd.R_drew)); exact HO174.out)) k_ hk))
               (case aO => exact ((Kd.R_nil _ _ _ _ (fun k_ => some k_ ≠ (.slice Ao125 y172.length co125 : Value).ownBlock))))
               (case aS => exact (below_size (by repeat (first | (with_reducible first | exact HB.out | apply below_alloc | apply pw_below_drewN | apply below_drew1 | refine below_set ?_ GE162.out | refine below_set ?_ GE163.out | refine below_set ?_ GE166.out) | exact HB.out))))
               (case aL => have := LMc14.out; have hlx_ := (show (l0_2.take (t164 : Int).toNat).length = t164.toNat from (by rw [List.length_take]; have h_ : (t164 : Int) ≤ (l0_2.length : Int) := of_decide_eq_true (by first | (with_reducible assumption) | assumption); omega)); omega)
               intro v177 w130 ho hb hg hat
               rw [← Ny176.out] at ho
               have n0_ := Aside0.mk (blk_grown (g := gb162) (o := .cells #[.slice A0_0 l0_0.length c0_0, .slice A0_1 l0_1.length c0_1, .slice A0_2 l0_2.length c0_2, .slice A0_3 l0_3.length c0_3, .slice A0_4 l0_4.length c0_4] 28 (0, 0)) (by (with_reducible repeat (first | refine blk_drewN ?_ _ | refine blk_drew ?_ | refine blk_alloc ?_ _)); exact BK162.out) hg (by simp [Value.ownBlock]))
               have n1_ := Aside0.mk (blk_grown (g := gb163) (o := .cells #[.slice none 0 0, .slice none 0 0, .slice none 0 0, .slice none 0 0, .slice none 0 0] 28 (0, 0)) (by (with_reducible repeat (first | refine blk_drewN ?_ _ | refine blk_drew ?_ | refine blk_alloc ?_ _)); exact BK163.out) hg (by simp [Value.ownBlock]))
               have n2_ := Aside0.mk (blk_grown (g := gb166) (o := .cells #[.slice Ao119 y168.length co119, .slice Ao125 y172.length co125, .slice none 0 0, .slice none 0 0, .slice none 0 0] 28 (0, 0)) (by (with_reducible repeat (first | refine blk_drewN ?_ _ | refine blk_drew ?_ | refine blk_alloc ?_ _)); exact BK166.out) hg (by simp [Value.ownBlock]))
               have n3_ := Aside0.mk (Kd.R_grown (by (with_reducible repeat (first | apply Kd.R_alloc | apply Kd.R_drewN | apply Kd.R_drew)); exact HO170.out) hg (fun _ _ => by simp [Value.ownBlock]))
               have n4_ := Aside0.mk (Kd.R_after (Kd.R_apart_nil (by (with_reducible repeat (first | apply Kd.R_alloc | apply Kd.R_drewN | apply Kd.R_drew)); exact HO174.out)) hg hat)
               have n5_ := Aside0.mk (hb)
               have n6_ := Aside0.mk (ho)
               clear BK162
               clear BK163
               clear BK166
               clear HO170
               clear HO174
               clear HB
               have BK162 := n0_
               have BK163 := n1_
               have BK166 := n2_
               have HO170 := n3_
               have HO174 := n4_
               have HB := n5_
               have HO178 := n6_
               clear n0_ n1_ n2_ n3_ n4_ n5_ n6_
               clear ho hb hg hat
               obtain ⟨Ao131, co131, eo131⟩ := Kd.R_slice HO178.out
               (first | subst eo131 | (injection eo131 with f1_ f2_ f3_; have f4_ := f1_.symm; have f5_ := f3_.symm; clear f1_ f2_ f3_; subst f4_; subst f5_))
               refine hK.out _ _ ⟨(blk_cell BK166.out 0).trans rfl, (blk_cell BK166.out 1).trans rfl, (blk_cell BK166.out 2).trans rfl, (blk_cell BK166.out 3).trans rfl, (blk_cell BK166.out 4).trans rfl, (blk_cell BK162.out 0).trans rfl, (blk_cell BK162.out 1).trans rfl, (blk_cell BK162.out 2).trans rfl, (blk_cell BK162.out 3).trans rfl, (blk_cell BK162.out 4).trans rfl⟩ (fun hHeld => ?_)
               clear hK K
               refine norm_ (a' := ?_) ?_ ?_
               rotate_left
               ·show Act.put _ (some 47) _ = _
                simp only [Act.put, List.setIfInBounds_toArray, List.set_cons_zero, List.set_cons_succ, i64_w, i32_w]
                rfl
               refine pure_ (i := 7) (N := some 48) (v := ?_) (a' := ?_) #[true, true, true, true, true, true, true, true, false] rfl rfl (any_of HT_.out (by kernel_rfl)) (fun _ _ _ h => h) (Or.inl ⟨by rfl, ?_⟩) ?_ ?_
               rotate_left
               ·intro w'
                go_simp
                with_reducible rfl
               rotate_left
               ·simp only [Act.put, List.setIfInBounds_toArray, List.set_cons_zero, List.set_cons_succ, i64_w, i32_w]
                rfl
               refine last_ (i := 8) (N := none) #[true, true, true, true, true, true, true, true, true] rfl rfl (one_of HT_.out (by kernel_rfl)) (by decide) (fun K hK => ?_)
               have hs132 : w130.cell? ⟨gb166, 2, none⟩ = some (.slice none 0 0) := (blk_cell BK166.out 2).trans rfl
               have hfs132 := blk_frozen BK166.out 2
               have hns132_0 := NB162_166.out
               have hns132_1 := NB163_166.out
               have hms132_0 := NB166_162.out
               have hms132_1 := NB166_163.out
               refine skip_ (w1 := ?_) (by rfl) rfl ?_ ?_
               rotate_left
               ·go_simp
                rfl
               refine hK.out _ _ ?_
               clear hK K
               refine done_ (done_of HT_.out (by kernel_rfl)) ?_
               have hcz133_0 : w130.cell? ⟨gb166, 0, none⟩ = some (.slice Ao119 y168.length co119) := (blk_cell BK166.out 0).trans rfl
               have hcz133_1 : w130.cell? ⟨gb166, 1, none⟩ = some (.slice Ao125 y172.length co125) := (blk_cell BK166.out 1).trans rfl
               have hcz133_2 : w130.cell? ⟨gb166, 2, none⟩ = some (.slice none 0 0) := (blk_cell BK166.out 2).trans rfl
               have hcz133_3 : w130.cell? ⟨gb166, 3, none⟩ = some (.slice none 0 0) := (blk_cell BK166.out 3).trans rfl
               have hcz133_4 : w130.cell? ⟨gb166, 4, none⟩ = some (.slice none 0 0) := (blk_cell BK166.out 4).trans rfl
               have hfz133_0 := blk_frozen BK166.out 0
               have hfz133_1 := blk_frozen BK166.out 1
               have hfz133_2 := blk_frozen BK166.out 2
               have hfz133_3 := blk_frozen BK166.out 3
               have hfz133_4 := blk_frozen BK166.out 4
               try go_wp2_with (first | ((with_reducible refine gate_builtin (b := .append) (xs := #[.tmp 50, .tmp 52]) rfl ?_); at_builtin; refine Kd.R_append Kd.string (w0 := w) w.heap.size rfl (.tmp 50) (.tmp 52) 25 9 (.string ⟨#[]⟩) 16 rfl Try.underlying25 info9 rfl (by decide) (by omega) (.slice Ao119 y168.length co119) y168 a1 [.string a1] (fun _ => True) (fun _ => False) rfl (by first | (go_simp; done) | (go_simp; rfl)) ?aP (fun _ hk => hk.elim) ?aF ?aO ?aB ?aS ?aL ?_; (case aP => exact rfl); (case aB => exact (by repeat (first | (with_reducible first | exact HB.out | apply below_alloc | apply pw_below_drewN | apply below_drew1 | refine below_set ?_ GE162.out | refine below_set ?_ GE163.out | refine below_set ?_ GE166.out) | exact HB.out))); (case aF => exact (fun _ _ => trivial)); (case aO => exact (by (with_reducible repeat (first | apply Kd.R_alloc | apply Kd.R_drewN | apply Kd.R_drew)); exact Kd.R_mono (Kd.R_far (p := ⟨gb166, 2, none⟩) (Kd.R_types HO170.out BK166.out (by decide)) (fun _ hk => hk.2) (.slice Ao131 y176.length co131)) (fun _ hk => trivial))); (case aS => exact (below_size (by repeat (first | (with_reducible first | exact HB.out | apply below_alloc | apply pw_below_drewN | apply below_drew1 | refine below_set ?_ GE162.out | refine below_set ?_ GE163.out | refine below_set ?_ GE166.out) | exact HB.out)))); (case aL => have := LMc15.out; omega); intro v180 w134 ho hb hg hat; rw [← Ny179.out] at ho; have n0_ := Aside0.mk (blk_grown (g := gb162) (o := .cells #[.slice A0_0 l0_0.length c0_0, .slice A0_1 l0_1.length c0_1, .slice A0_2 l0_2.length c0_2, .slice A0_3 l0_3.length c0_3, .slice A0_4 l0_4.length c0_4] 28 (0, 0)) (by (with_reducible repeat (first | refine blk_drewN ?_ _ | refine blk_drew ?_ | refine blk_alloc ?_ _)); refine blk_far ?_ NB162_166.out _; (with_reducible repeat (first | refine blk_drewN ?_ _ | refine blk_drew ?_ | refine blk_alloc ?_ _)); exact BK162.out) hg (Kd.R_ne HO170.out BK162.out (by decide))); have n1_ := Aside0.mk (blk_grown (g := gb163) (o := .cells #[.slice none 0 0, .slice none 0 0, .slice none 0 0, .slice none 0 0, .slice none 0 0] 28 (0, 0)) (by (with_reducible repeat (first | refine blk_drewN ?_ _ | refine blk_drew ?_ | refine blk_alloc ?_ _)); refine blk_far ?_ NB163_166.out _; (with_reducible repeat (first | refine blk_drewN ?_ _ | refine blk_drew ?_ | refine blk_alloc ?_ _)); exact BK163.out) hg (Kd.R_ne HO170.out BK163.out (by decide))); have n2_ := Aside0.mk (blk_grown (g := gb166) (o := .cells #[.slice Ao119 y168.length co119, .slice Ao125 y172.length co125, .slice Ao131 y176.length co131, .slice none 0 0, .slice none 0 0] 28 (0, 0)) (by (with_reducible repeat (first | refine blk_drewN ?_ _ | refine blk_drew ?_ | refine blk_alloc ?_ _)); refine blk_put (cs := #[.slice Ao119 y168.length co119, .slice Ao125 y172.length co125, .slice none 0 0, .slice none 0 0, .slice none 0 0]) ?_ 2 _ rfl; (with_reducible repeat (first | refine blk_drewN ?_ _ | refine blk_drew ?_ | refine blk_alloc ?_ _)); exact BK166.out) hg (Kd.R_ne HO170.out BK166.out (by decide))); have n3_ := Aside0.mk (Kd.R_over' (by (with_reducible repeat (first | apply Kd.R_alloc | apply Kd.R_drewN | apply Kd.R_drew)); exact (Kd.R_mono (Kd.R_far (p := ⟨gb166, 2, none⟩) (Kd.R_types HO174.out BK166.out (by decide)) (fun _ hk => hk.2) (.slice Ao131 y176.length co131)) (fun _ h_ => h_.1))) (Kd.R_typed (by (with_reducible repeat (first | apply Kd.R_alloc | apply Kd.R_drewN | apply Kd.R_drew)); exact (Kd.R_mono (Kd.R_far (p := ⟨gb166, 2, none⟩) (Kd.R_types HO170.out BK166.out (by decide)) (fun _ hk => hk.2) (.slice Ao131 y176.length co131)) (fun _ h_ => h_.1)))) (by decide) hg); have n4_ := Aside0.mk (Kd.R_over' (by (with_reducible repeat (first | apply Kd.R_alloc | apply Kd.R_drewN | apply Kd.R_drew)); exact (Kd.R_mono (Kd.R_far (p := ⟨gb166, 2, none⟩) (Kd.R_types HO178.out BK166.out (by decide)) (fun _ hk => hk.2) (.slice Ao131 y176.length co131)) (fun _ h_ => h_.1))) (Kd.R_typed (by (with_reducible repeat (first | apply Kd.R_alloc | apply Kd.R_drewN | apply Kd.R_drew)); exact (Kd.R_mono (Kd.R_far (p := ⟨gb166, 2, none⟩) (Kd.R_types HO170.out BK166.out (by decide)) (fun _ hk => hk.2) (.slice Ao131 y176.length co131)) (fun _ h_ => h_.1)))) (by decide) hg); have n5_ := Aside0.mk (hb); have n6_ := Aside0.mk (ho); clear BK162; clear BK163; clear BK166; clear HO174; clear HO178; clear HB; clear HO170; have BK162 := n0_; have BK163 := n1_; have BK166 := n2_; have HO174 := n3_; have HO178 := n4_; have HB := n5_; have HO181 := n6_; clear n0_ n1_ n2_ n3_ n4_ n5_ n6_; clear ho hb hg hat; obtain ⟨Ao135, co135, eo135⟩ := Kd.R_slice HO181.out; subst eo135; have hcz136_0 : w134.cell? ⟨gb166, 0, none⟩ = some (.slice Ao119 y168.length co119) := (blk_cell BK166.out 0).trans rfl; have hcz136_1 : w134.cell? ⟨gb166, 1, none⟩ = some (.slice Ao125 y172.length co125) := (blk_cell BK166.out 1).trans rfl; have hcz136_2 : w134.cell? ⟨gb166, 2, none⟩ = some (.slice Ao131 y176.length co131) := (blk_cell BK166.out 2).trans rfl; have hcz136_3 : w134.cell? ⟨gb166, 3, none⟩ = some (.slice none 0 0) := (blk_cell BK166.out 3).trans rfl; have hcz136_4 : w134.cell? ⟨gb166, 4, none⟩ = some (.slice none 0 0) := (blk_cell BK166.out 4).trans rfl; have hfz136_0 := blk_frozen BK166.out 0; have hfz136_1 := blk_frozen BK166.out 1; have hfz136_2 := blk_frozen BK166.out 2; have hfz136_3 := blk_frozen BK166.out 3; have hfz136_4 := blk_frozen BK166.out 4) | ((with_reducible refine gate_builtin (b := .append) (xs := #[.tmp 56, .tmp 58]) rfl ?_); at_builtin; refine Kd.R_append (Kd.int .i64) (w0 := w) w.heap.size rfl (.tmp 56) (.tmp 58) 26 3 (.int .i64 0) 8 rfl Try.underlying26 info3 rfl (by decide) (by omega) (.slice Ao125 y172.length co125) y172 a2 [.int .i64 a2] (fun k_ => some k_ ≠ (.slice Ao131 y176.length co131 : Value).ownBlock) (fun _ => False) rfl (by first | (go_simp; done) | (go_simp; rfl)) ?aP (fun _ hk => hk.elim) ?aF ?aO ?aB ?aS ?aL ?_; (case aP => exact rfl); (case aB => exact (by repeat (first | (with_reducible first | exact HB.out | apply below_alloc | apply pw_below_drewN | apply below_drew1 | refine below_set ?_ GE162.out | refine below_set ?_ GE163.out | refine below_set ?_ GE166.out) | exact HB.out))); (case aF => exact (fun k_ hk => Kd.fresh' (Kd.R_lt (by (with_reducible repeat (first | apply Kd.R_alloc | apply Kd.R_drewN | apply Kd.R_drew)); exact (Kd.R_mono (Kd.R_far (p := ⟨gb166, 0, none⟩) (Kd.R_types HO178.out BK166.out (by decide)) (fun _ hk => hk.2) (.slice Ao135 y179.length co135)) (fun _ h_ => h_.1)))) k_ hk)); (case aO => exact (by (with_reducible repeat (first | apply Kd.R_alloc | apply Kd.R_drewN | apply Kd.R_drew)); exact Kd.R_mono (Kd.R_far (p := ⟨gb166, 0, none⟩) (Kd.R_types HO174.out BK166.out (by decide)) (fun _ hk => hk.2) (.slice Ao135 y179.length co135)) (fun _ hk => hk.1.2))); (case aS => exact (below_size (by repeat (first | (with_reducible first | exact HB.out | apply below_alloc | apply pw_below_drewN | apply below_drew1 | refine below_set ?_ GE162.out | refine below_set ?_ GE163.out | refine below_set ?_ GE166.out) | exact HB.out)))); (case aL => have := LMc16.out; omega); intro v183 w137 ho hb hg hat; rw [← Ny182.out] at ho; have n0_ := Aside0.mk (blk_grown (g := gb162) (o := .cells #[.slice A0_0 l0_0.length c0_0, .slice A0_1 l0_1.length c0_1, .slice A0_2 l0_2.length c0_2, .slice A0_3 l0_3.length c0_3, .slice A0_4 l0_4.length c0_4] 28 (0, 0)) (by (with_reducible repeat (first | refine blk_drewN ?_ _ | refine blk_drew ?_ | refine blk_alloc ?_ _)); refine blk_far ?_ NB162_166.out _; (with_reducible repeat (first | refine blk_drewN ?_ _ | refine blk_drew ?_ | refine blk_alloc ?_ _)); exact BK162.out) hg (Kd.R_ne HO174.out BK162.out (by decide))); have n1_ := Aside0.mk (blk_grown (g := gb163) (o := .cells #[.slice none 0 0, .slice none 0 0, .slice none 0 0, .slice none 0 0, .slice none 0 0] 28 (0, 0)) (by (with_reducible repeat (first | refine blk_drewN ?_ _ | refine blk_drew ?_ | refine blk_alloc ?_ _)); refine blk_far ?_ NB163_166.out _; (with_reducible repeat (first | refine blk_drewN ?_ _ | refine blk_drew ?_ | refine blk_alloc ?_ _)); exact BK163.out) hg (Kd.R_ne HO174.out BK163.out (by decide))); have n2_ := Aside0.mk (blk_grown (g := gb166) (o := .cells #[.slice Ao135 y179.length co135, .slice Ao125 y172.length co125, .slice Ao131 y176.length co131, .slice none 0 0, .slice none 0 0] 28 (0, 0)) (by (with_reducible repeat (first | refine blk_drewN ?_ _ | refine blk_drew ?_ | refine blk_alloc ?_ _)); refine blk_put (cs := #[.slice Ao119 y168.length co119, .slice Ao125 y172.length co125, .slice Ao131 y176.length co131, .slice none 0 0, .slice none 0 0]) ?_ 0 _ rfl; (with_reducible repeat (first | refine blk_drewN ?_ _ | refine blk_drew ?_ | refine blk_alloc ?_ _)); exact BK166.out) hg (Kd.R_ne HO174.out BK166.out (by decide))); have n3_ := Aside0.mk (Kd.R_after (ok := (fun _ => True)) (by (with_reducible repeat (first | apply Kd.R_alloc | apply Kd.R_drewN | apply Kd.R_drew)); exact Kd.R_mono (Kd.R_far (p := ⟨gb166, 0, none⟩) (Kd.R_types HO178.out BK166.out (by decide)) (fun _ hk => hk.2) (.slice Ao135 y179.length co135)) (fun _ hk => ⟨trivial, hk.1⟩)) hg hat); have n4_ := Aside0.mk (Kd.R_over' (by (with_reducible repeat (first | apply Kd.R_alloc | apply Kd.R_drewN | apply Kd.R_drew)); exact (Kd.R_mono (Kd.R_far (p := ⟨gb166, 0, none⟩) (Kd.R_types HO181.out BK166.out (by decide)) (fun _ hk => hk.2) (.slice Ao135 y179.length co135)) (fun _ h_ => h_.1))) (Kd.R_typed (by (with_reducible repeat (first | apply Kd.R_alloc | apply Kd.R_drewN | apply Kd.R_drew)); exact (Kd.R_mono (Kd.R_far (p := ⟨gb166, 0, none⟩) (Kd.R_types HO174.out BK166.out (by decide)) (fun _ hk => hk.2) (.slice Ao135 y179.length co135)) (fun _ h_ => h_.1)))) (by decide) hg); have n5_ := Aside0.mk (hb); have n6_ := Aside0.mk (ho); clear BK162; clear BK163; clear BK166; clear HO178; clear HO181; clear HB; clear HO174; have BK162 := n0_; have BK163 := n1_; have BK166 := n2_; have HO178 := n3_; have HO181 := n4_; have HB := n5_; have HO184 := n6_; clear n0_ n1_ n2_ n3_ n4_ n5_ n6_; clear ho hb hg hat; obtain ⟨Ao138, co138, eo138⟩ := Kd.R_slice HO184.out; subst eo138; have hcz139_0 : w137.cell? ⟨gb166, 0, none⟩ = some (.slice Ao135 y179.length co135) := (blk_cell BK166.out 0).trans rfl; have hcz139_1 : w137.cell? ⟨gb166, 1, none⟩ = some (.slice Ao125 y172.length co125) := (blk_cell BK166.out 1).trans rfl; have hcz139_2 : w137.cell? ⟨gb166, 2, none⟩ = some (.slice Ao131 y176.length co131) := (blk_cell BK166.out 2).trans rfl; have hcz139_3 : w137.cell? ⟨gb166, 3, none⟩ = some (.slice none 0 0) := (blk_cell BK166.out 3).trans rfl; have hcz139_4 : w137.cell? ⟨gb166, 4, none⟩ = some (.slice none 0 0) := (blk_cell BK166.out 4).trans rfl; have hfz139_0 := blk_frozen BK166.out 0; have hfz139_1 := blk_frozen BK166.out 1; have hfz139_2 := blk_frozen BK166.out 2; have hfz139_3 := blk_frozen BK166.out 3; have hfz139_4 := blk_frozen BK166.out 4) | ((with_reducible refine gate_builtin (b := .append) (xs := #[.tmp 62, .tmp 64]) rfl ?_); at_builtin; refine Kd.R_append (Kd.int .i64) (w0 := w) w.heap.size rfl (.tmp 62) (.tmp 64) 26 3 (.int .i64 0) 8 rfl Try.underlying26 info3 rfl (by decide) (by omega) (.slice Ao131 y176.length co131) y176 a3 [.int .i64 a3] (fun k_ => some k_ ≠ (.slice Ao138 y182.length co138 : Value).ownBlock) (fun _ => False) rfl (by first | (go_simp; done) | (go_simp; rfl)) ?aP (fun _ hk => hk.elim) ?aF ?aO ?aB ?aS ?aL ?_; (case aP => exact rfl); (case aB => exact (by repeat (first | (with_reducible first | exact HB.out | apply below_alloc | apply pw_below_drewN | apply below_drew1 | refine below_set ?_ GE162.out | refine below_set ?_ GE163.out | refine below_set ?_ GE166.out) | exact HB.out))); (case aF => exact (fun k_ hk => Kd.fresh' (Kd.R_lt (by (with_reducible repeat (first | apply Kd.R_alloc | apply Kd.R_drewN | apply Kd.R_drew)); exact (Kd.R_mono (Kd.R_far (p := ⟨gb166, 1, none⟩) (Kd.R_types HO184.out BK166.out (by decide)) (fun _ hk => hk.2) (.slice Ao138 y182.length co138)) (fun _ h_ => h_.1)))) k_ hk)); (case aO => exact (by (with_reducible repeat (first | apply Kd.R_alloc | apply Kd.R_drewN | apply Kd.R_drew)); exact Kd.R_mono (Kd.R_far (p := ⟨gb166, 1, none⟩) (Kd.R_types HO178.out BK166.out (by decide)) (fun _ hk => hk.2) (.slice Ao138 y182.length co138)) (fun _ hk => hk.1.2))); (case aS => exact (below_size (by repeat (first | (with_reducible first | exact HB.out | apply below_alloc | apply pw_below_drewN | apply below_drew1 | refine below_set ?_ GE162.out | refine below_set ?_ GE163.out | refine below_set ?_ GE166.out) | exact HB.out)))); (case aL => have := LMc17.out; omega); intro v186 w140 ho hb hg hat; rw [← Ny185.out] at ho; have n0_ := Aside0.mk (blk_grown (g := gb162) (o := .cells #[.slice A0_0 l0_0.length c0_0, .slice A0_1 l0_1.length c0_1, .slice A0_2 l0_2.length c0_2, .slice A0_3 l0_3.length c0_3, .slice A0_4 l0_4.length c0_4] 28 (0, 0)) (by (with_reducible repeat (first | refine blk_drewN ?_ _ | refine blk_drew ?_ | refine blk_alloc ?_ _)); refine blk_far ?_ NB162_166.out _; (with_reducible repeat (first | refine blk_drewN ?_ _ | refine blk_drew ?_ | refine blk_alloc ?_ _)); exact BK162.out) hg (Kd.R_ne HO178.out BK162.out (by decide))); have n1_ := Aside0.mk (blk_grown (g := gb163) (o := .cells #[.slice none 0 0, .slice none 0 0, .slice none 0 0, .slice none 0 0, .slice none 0 0] 28 (0, 0)) (by (with_reducible repeat (first | refine blk_drewN ?_ _ | refine blk_drew ?_ | refine blk_alloc ?_ _)); refine blk_far ?_ NB163_166.out _; (with_reducible repeat (first | refine blk_drewN ?_ _ | refine blk_drew ?_ | refine blk_alloc ?_ _)); exact BK163.out) hg (Kd.R_ne HO178.out BK163.out (by decide))); have n2_ := Aside0.mk (blk_grown (g := gb166) (o := .cells #[.slice Ao135 y179.length co135, .slice Ao138 y182.length co138, .slice Ao131 y176.length co131, .slice none 0 0, .slice none 0 0] 28 (0, 0)) (by (with_reducible repeat (first | refine blk_drewN ?_ _ | refine blk_drew ?_ | refine blk_alloc ?_ _)); refine blk_put (cs := #[.slice Ao135 y179.length co135, .slice Ao125 y172.length co125, .slice Ao131 y176.length co131, .slice none 0 0, .slice none 0 0]) ?_ 1 _ rfl; (with_reducible repeat (first | refine blk_drewN ?_ _ | refine blk_drew ?_ | refine blk_alloc ?_ _)); exact BK166.out) hg (Kd.R_ne HO178.out BK166.out (by decide))); have n3_ := Aside0.mk (Kd.R_over' (by (with_reducible repeat (first | apply Kd.R_alloc | apply Kd.R_drewN | apply Kd.R_drew)); exact (Kd.R_mono (Kd.R_far (p := ⟨gb166, 1, none⟩) (Kd.R_types HO181.out BK166.out (by decide)) (fun _ hk => hk.2) (.slice Ao138 y182.length co138)) (fun _ h_ => h_.1))) (Kd.R_typed (by (with_reducible repeat (first | apply Kd.R_alloc | apply Kd.R_drewN | apply Kd.R_drew)); exact (Kd.R_mono (Kd.R_far (p := ⟨gb166, 1, none⟩) (Kd.R_types HO178.out BK166.out (by decide)) (fun _ hk => hk.2) (.slice Ao138 y182.length co138)) (fun _ h_ => h_.1)))) (by decide) hg); have n4_ := Aside0.mk (Kd.R_after (ok := (fun _ => True)) (by (with_reducible repeat (first | apply Kd.R_alloc | apply Kd.R_drewN | apply Kd.R_drew)); exact Kd.R_mono (Kd.R_far (p := ⟨gb166, 1, none⟩) (Kd.R_types HO184.out BK166.out (by decide)) (fun _ hk => hk.2) (.slice Ao138 y182.length co138)) (fun _ hk => ⟨trivial, hk.1⟩)) hg hat); have n5_ := Aside0.mk (hb); have n6_ := Aside0.mk (ho); clear BK162; clear BK163; clear BK166; clear HO181; clear HO184; clear HB; clear HO178; have BK162 := n0_; have BK163 := n1_; have BK166 := n2_; have HO181 := n3_; have HO184 := n4_; have HB := n5_; have HO187 := n6_; clear n0_ n1_ n2_ n3_ n4_ n5_ n6_; clear ho hb hg hat; obtain ⟨Ao141, co141, eo141⟩ := Kd.R_slice HO187.out; subst eo141; have hcz142_0 : w140.cell? ⟨gb166, 0, none⟩ = some (.slice Ao135 y179.length co135) := (blk_cell BK166.out 0).trans rfl; have hcz142_1 : w140.cell? ⟨gb166, 1, none⟩ = some (.slice Ao138 y182.length co138) := (blk_cell BK166.out 1).trans rfl; have hcz142_2 : w140.cell? ⟨gb166, 2, none⟩ = some (.slice Ao131 y176.length co131) := (blk_cell BK166.out 2).trans rfl; have hcz142_3 : w140.cell? ⟨gb166, 3, none⟩ = some (.slice none 0 0) := (blk_cell BK166.out 3).trans rfl; have hcz142_4 : w140.cell? ⟨gb166, 4, none⟩ = some (.slice none 0 0) := (blk_cell BK166.out 4).trans rfl; have hfz142_0 := blk_frozen BK166.out 0; have hfz142_1 := blk_frozen BK166.out 1; have hfz142_2 := blk_frozen BK166.out 2; have hfz142_3 := blk_frozen BK166.out 3; have hfz142_4 := blk_frozen BK166.out 4))
               have n0_ : Aside0 (Kd.R Kd.string 9 (w140.setCell ⟨gb166, 2, none⟩ (.slice Ao141 y185.length co141)) w.heap.size (fun _ => True) (.slice Ao135 y179.length co135) y179) := ⟨by (with_reducible repeat (first | apply Kd.R_alloc | apply Kd.R_drewN | apply Kd.R_drew)); exact Kd.R_mono (Kd.R_far (p := ⟨gb166, 2, none⟩) (Kd.R_types HO181.out BK166.out (by decide)) (fun _ hk => hk.2) (.slice Ao141 y185.length co141)) (fun _ hk => trivial)⟩
               have n1_ : Aside0 (Kd.R (Kd.int .i64) 3 (w140.setCell ⟨gb166, 2, none⟩ (.slice Ao141 y185.length co141)) w.heap.size (fun k_ => some k_ ≠ (.slice Ao141 y185.length co141 : Value).ownBlock) (.slice Ao138 y182.length co138) y182) := ⟨by (with_reducible repeat (first | apply Kd.R_alloc | apply Kd.R_drewN | apply Kd.R_drew)); exact Kd.R_mono (Kd.R_far (p := ⟨gb166, 2, none⟩) (Kd.R_types HO184.out BK166.out (by decide)) (fun _ hk => hk.2) (.slice Ao141 y185.length co141)) (fun _ hk => hk.1.2)⟩
               have n2_ : Aside0 (Kd.R (Kd.int .i64) 3 (w140.setCell ⟨gb166, 2, none⟩ (.slice Ao141 y185.length co141)) w.heap.size (fun k_ => some k_ ≠ (.slice Ao138 y182.length co138 : Value).ownBlock) (.slice Ao141 y185.length co141) y185) := ⟨by (with_reducible repeat (first | apply Kd.R_alloc | apply Kd.R_drewN | apply Kd.R_drew)); exact Kd.R_mono (Kd.R_far (p := ⟨gb166, 2, none⟩) (Kd.R_types HO187.out BK166.out (by decide)) (fun _ hk => hk.2) (.slice Ao141 y185.length co141)) (fun _ hk => hk.1)⟩
               have n3_ : Aside0 ((w140.setCell ⟨gb166, 2, none⟩ (.slice Ao141 y185.length co141)).heap[gb162]? = some (.cells #[.slice A0_0 l0_0.length c0_0, .slice A0_1 l0_1.length c0_1, .slice A0_2 l0_2.length c0_2, .slice A0_3 l0_3.length c0_3, .slice A0_4 l0_4.length c0_4] 28 (0, 0))) := ⟨by (with_reducible repeat (first | refine blk_drewN ?_ _ | refine blk_drew ?_ | refine blk_alloc ?_ _)); refine blk_far ?_ NB162_166.out _; (with_reducible repeat (first | refine blk_drewN ?_ _ | refine blk_drew ?_ | refine blk_alloc ?_ _)); exact BK162.out⟩
               have n4_ : Aside0 ((w140.setCell ⟨gb166, 2, none⟩ (.slice Ao141 y185.length co141)).heap[gb163]? = some (.cells #[.slice none 0 0, .slice none 0 0, .slice none 0 0, .slice none 0 0, .slice none 0 0] 28 (0, 0))) := ⟨by (with_reducible repeat (first | refine blk_drewN ?_ _ | refine blk_drew ?_ | refine blk_alloc ?_ _)); refine blk_far ?_ NB163_166.out _; (with_reducible repeat (first | refine blk_drewN ?_ _ | refine blk_drew ?_ | refine blk_alloc ?_ _)); exact BK163.out⟩
               have n5_ : Aside0 ((w140.setCell ⟨gb166, 2, none⟩ (.slice Ao141 y185.length co141)).heap[gb166]? = some (.cells #[.slice Ao135 y179.length co135, .slice Ao138 y182.length co138, .slice Ao141 y185.length co141, .slice none 0 0, .slice none 0 0] 28 (0, 0))) := ⟨by (with_reducible repeat (first | refine blk_drewN ?_ _ | refine blk_drew ?_ | refine blk_alloc ?_ _)); refine blk_put (cs := #[.slice Ao135 y179.length co135, .slice Ao138 y182.length co138, .slice Ao131 y176.length co131, .slice none 0 0, .slice none 0 0]) ?_ 2 _ rfl; (with_reducible repeat (first | refine blk_drewN ?_ _ | refine blk_drew ?_ | refine blk_alloc ?_ _)); exact BK166.out⟩
               have n6_ : Aside0 (Below w.heap.size w (w140.setCell ⟨gb166, 2, none⟩ (.slice Ao141 y185.length co141))) := ⟨by repeat (first | (with_reducible first | exact HB.out | apply below_alloc | apply pw_below_drewN | apply below_drew1 | refine below_set ?_ GE162.out | refine below_set ?_ GE163.out | refine below_set ?_ GE166.out) | exact HB.out)⟩
               (try clear HO181)
               (try clear HO184)
               (try clear HO187)
               (try clear BK162)
               (try clear BK163)
               (try clear BK166)
               (try clear HB)
               generalize (w140.setCell ⟨gb166, 2, none⟩ (.slice Ao141 y185.length co141)) = w143 at n0_ n1_ n2_ n3_ n4_ n5_ n6_ ⊢
               have HO181 := n0_
               have HO184 := n1_
               have HO187 := n2_
               have BK162 := n3_
               have BK163 := n4_
               have BK166 := n5_
               have HB := n6_
               clear n0_ n1_ n2_ n3_ n4_ n5_ n6_
               have n0_ := Aside0.mk (Kd.R_drew HO181.out)
               have n1_ := Aside0.mk (Kd.R_drew HO184.out)
               have n2_ := Aside0.mk (Kd.R_drew HO187.out)
               have n3_ := Aside0.mk (blk_drew BK162.out)
               have n4_ := Aside0.mk (blk_drew BK163.out)
               have n5_ := Aside0.mk (blk_drew BK166.out)
               have n6_ := Aside0.mk (below_drew1 HB.out)
               clear HO181
               clear HO184
               clear HO187
               clear BK162
               clear BK163
               clear BK166
               clear HB
               have HO181 := n0_
               have HO184 := n1_
               have HO187 := n2_
               have BK162 := n3_
               have BK163 := n4_
               have BK166 := n5_
               have HB := n6_
               clear n0_ n1_ n2_ n3_ n4_ n5_ n6_
               obtain ⟨i0145, hi0145, _, hsz145, _⟩ := info_parts info9
               obtain ⟨A145, hcut145, hA145, hC145⟩ := print_drop_of (P := Try.prog) Value.string (⟨#[]⟩ : ByteArray) 25 9 .i64 Try.underlying25 hi0145 hsz145 A0_0 c0_0 l0_0 t164 (of_decide_eq_true (by first | (with_reducible assumption) | assumption)) (of_decide_eq_true (by first | (with_reducible assumption) | assumption)) HC0_0.out
               have HR217 := Aside0.mk (Kd.C_of_reads (h1 := fun _ => rfl) (hA145 _ (Kd.reads_of_C HR0_0.out)))
               have HC217 := Aside0.mk hC145
               clear hA145 hC145 hi0145 hsz145
               refine start_ (n := 9) (S := fun w' => w'.cell? ⟨gb166, 0, none⟩ = some (.slice Ao135 y179.length co135) ∧ w'.cell? ⟨gb166, 1, none⟩ = some (.slice Ao138 y182.length co138) ∧ w'.cell? ⟨gb166, 2, none⟩ = some (.slice Ao141 y185.length co141) ∧ w'.cell? ⟨gb166, 3, none⟩ = some (.slice none 0 0) ∧ w'.cell? ⟨gb166, 4, none⟩ = some (.slice none 0 0) ∧ w'.cell? ⟨gb162, 0, none⟩ = some (.slice A0_0 l0_0.length c0_0) ∧ w'.cell? ⟨gb162, 1, none⟩ = some (.slice A0_1 l0_1.length c0_1) ∧ w'.cell? ⟨gb162, 2, none⟩ = some (.slice A0_2 l0_2.length c0_2) ∧ w'.cell? ⟨gb162, 3, none⟩ = some (.slice A0_3 l0_3.length c0_3) ∧ w'.cell? ⟨gb162, 4, none⟩ = some (.slice A0_4 l0_4.length c0_4)) (ds := [8]) #[false, false, false, false, false, false, false, false, false] (by kernel_rfl) rfl rfl ⟨(blk_cell BK166.out 0).trans rfl, (blk_cell BK166.out 1).trans rfl, (blk_cell BK166.out 2).trans rfl, (blk_cell BK166.out 3).trans rfl, (blk_cell BK166.out 4).trans rfl, (blk_cell BK162.out 0).trans rfl, (blk_cell BK162.out 1).trans rfl, (blk_cell BK162.out 2).trans rfl, (blk_cell BK162.out 3).trans rfl, (blk_cell BK162.out 4).trans rfl⟩ (fun hHeld => ?_); refine with_tabW musterref03_Insert.tab14 musterref03_Insert.bits14 (fun HT_ HW_ => ?_)
               generalize w143.drew = w144 at HO181 HO184 HO187 BK162 BK163 BK166 HB HR217 hHeld ⊢
               refine pure_ (i := 0) (N := some 76) (v := ?_) (a' := ?_) #[true, false, false, false, false, false, false, false, false] rfl rfl (any_of HT_.out (by kernel_rfl)) (fun _ _ _ h => h) (Or.inl ⟨by rfl, ?_⟩) ?_ ?_
               rotate_left
               ·intro w'
                go_simp
                with_reducible rfl
               rotate_left
               ·simp only [Act.put, List.setIfInBounds_toArray, List.set_cons_zero, List.set_cons_succ, i64_w, i32_w]
                rfl
               refine pure_ (i := 2) (N := some 78) (v := ?_) (a' := ?_) #[true, false, true, false, false, false, false, false, false] rfl rfl (any_of HT_.out (by kernel_rfl)) (fun _ _ _ h => h) (Or.inl ⟨by rfl, ?_⟩) ?_ ?_
               rotate_left
               ·intro w'
                go_simp
                with_reducible rfl
               rotate_left
               ·simp only [Act.put, List.setIfInBounds_toArray, List.set_cons_zero, List.set_cons_succ, i64_w, i32_w]
                rfl
               refine pure_ (i := 4) (N := some 80) (v := ?_) (a' := ?_) #[true, false, true, false, true, false, false, false, false] rfl rfl (any_of HT_.out (by kernel_rfl)) (fun _ _ _ h => h) (Or.inl ⟨by rfl, ?_⟩) ?_ ?_
               rotate_left
               ·intro w'
                go_simp
                with_reducible rfl
               rotate_left
               ·simp only [Act.put, List.setIfInBounds_toArray, List.set_cons_zero, List.set_cons_succ, i64_w, i32_w]
                rfl
               refine take_ (i := 1) (N := some 77) (v := ?_) (a' := ?_) #[true, true, true, false, true, false, false, false, false] rfl rfl (take_ofW HT_.out HW_.out (by kernel_rfl)) (fun _ _ _ h => h) (Or.inl ⟨by rfl, ?_⟩) hHeld ?_ ?_
               rotate_left
               ·rintro w' ⟨s0, s1, s2, s3, s4, s5, s6, s7, s8, s9⟩
                go_simp
                with_reducible rfl
               rotate_left
               ·simp only [Act.put, List.setIfInBounds_toArray, List.set_cons_zero, List.set_cons_succ, i64_w, i32_w]
                rfl
               refine take_ (i := 3) (N := some 79) (v := ?_) (a' := ?_) #[true, true, true, true, true, false, false, false, false] rfl rfl (take_ofW HT_.out HW_.out (by kernel_rfl)) (fun _ _ _ h => h) (Or.inl ⟨by rfl, ?_⟩) hHeld ?_ ?_
               rotate_left
               ·rintro w' ⟨s0, s1, s2, s3, s4, s5, s6, s7, s8, s9⟩
                go_simp
                with_reducible rfl
               rotate_left
               ·simp only [Act.put, List.setIfInBounds_toArray, List.set_cons_zero, List.set_cons_succ, i64_w, i32_w]
                rfl
               refine pure_ (i := 5) (N := some 81) (v := ?_) (a' := ?_) #[true, true, true, true, true, true, false, false, false] rfl rfl (any_of HT_.out (by kernel_rfl)) (fun _ _ _ h => h) (Or.inl ⟨by rfl, ?_⟩) ?_ ?_
               rotate_left
               ·intro w'
                go_simp
                with_reducible rfl
               rotate_left
               ·simp only [Act.put, List.setIfInBounds_toArray, List.set_cons_zero, List.set_cons_succ, i64_w, i32_w]
                rfl
               refine one_ (i := 6) (N := some 82) #[true, true, true, true, true, true, true, false, false] rfl rfl (one_of HT_.out (by kernel_rfl)) (by decide) (fun K hK => ?_)
               refine Kd.R_append_rows_step Kd.string (w0 := w) w.heap.size (by rfl) (.tmp 77) (.tmp 81) 25 9 (.string ⟨#[]⟩) 16 rfl Try.underlying25 info9 rfl (by decide) (by omega) (.slice Ao135 y179.length co135) y179 (l0_0.drop (t164 : Int).toNat) _ _ _ (fun _ => True) (fun _ => False) rfl rfl ?aO ?aR (fun _ _ h => h) (fun _ h => h.elim) ?aF ?aB ?aS ?aL ?_
               (case aR => first | (have hz_ := (Kd.C_below HR217.out HB.out); rw [show (l0_0.drop (t164 : Int).toNat).length = (l0_0.length - t164.toNat) from List.length_drop] at hz_; exact hz_) | (rw [← show (l0_0.drop (t164 : Int).toNat).length = (l0_0.length - t164.toNat) from List.length_drop]; repeat (first | exact (Kd.C_below HR217.out HB.out) | (with_reducible refine Kd.C_alloc ?_ _) | (with_reducible refine Kd.C_drewN ?_ _) | (with_reducible refine Kd.C_drew ?_)); done) | (repeat (first | exact (Kd.C_below HR217.out HB.out) | (with_reducible refine Kd.C_alloc ?_ _) | (with_reducible refine Kd.C_drewN ?_ _) | (with_reducible refine Kd.C_drew ?_))))
               (case aB => exact (by repeat (first | (with_reducible first | exact HB.out | apply below_alloc | apply pw_below_drewN | apply below_drew1 | refine below_set ?_ GE162.out | refine below_set ?_ GE163.out | refine below_set ?_ GE166.out) | exact HB.out)))
               (case aF => exact (fun _ _ => trivial))
               (case aO => exact (by (with_reducible repeat (first | apply Kd.R_alloc | apply Kd.R_drewN | apply Kd.R_drew)); exact HO181.out))
               (case aS => exact (below_size (by repeat (first | (with_reducible first | exact HB.out | apply below_alloc | apply pw_below_drewN | apply below_drew1 | refine below_set ?_ GE162.out | refine below_set ?_ GE163.out | refine below_set ?_ GE166.out) | exact HB.out))))
               (case aL => have := LMc99.out; have hlx_ := (show (l0_0.drop (t164 : Int).toNat).length = (l0_0.length - t164.toNat) from List.length_drop); omega)
               intro v219 w146 ho hb hg hat
               rw [← Ny218.out] at ho
               have n0_ := Aside0.mk (blk_grown (g := gb162) (o := .cells #[.slice A0_0 l0_0.length c0_0, .slice A0_1 l0_1.length c0_1, .slice A0_2 l0_2.length c0_2, .slice A0_3 l0_3.length c0_3, .slice A0_4 l0_4.length c0_4] 28 (0, 0)) (by (with_reducible repeat (first | refine blk_drewN ?_ _ | refine blk_drew ?_ | refine blk_alloc ?_ _)); exact BK162.out) hg (Kd.R_ne HO181.out BK162.out (by decide)))
               have n1_ := Aside0.mk (blk_grown (g := gb163) (o := .cells #[.slice none 0 0, .slice none 0 0, .slice none 0 0, .slice none 0 0, .slice none 0 0] 28 (0, 0)) (by (with_reducible repeat (first | refine blk_drewN ?_ _ | refine blk_drew ?_ | refine blk_alloc ?_ _)); exact BK163.out) hg (Kd.R_ne HO181.out BK163.out (by decide)))
               have n2_ := Aside0.mk (blk_grown (g := gb166) (o := .cells #[.slice Ao135 y179.length co135, .slice Ao138 y182.length co138, .slice Ao141 y185.length co141, .slice none 0 0, .slice none 0 0] 28 (0, 0)) (by (with_reducible repeat (first | refine blk_drewN ?_ _ | refine blk_drew ?_ | refine blk_alloc ?_ _)); exact BK166.out) hg (Kd.R_ne HO181.out BK166.out (by decide)))
               have n3_ := Aside0.mk (Kd.R_over' (by (with_reducible repeat (first | apply Kd.R_alloc | apply Kd.R_drewN | apply Kd.R_drew)); exact HO184.out) (Kd.R_typed (by (with_reducible repeat (first | apply Kd.R_alloc | apply Kd.R_drewN | apply Kd.R_drew)); exact HO181.out)) (by decide) hg)
               have n4_ := Aside0.mk (Kd.R_over' (by (with_reducible repeat (first | apply Kd.R_alloc | apply Kd.R_drewN | apply Kd.R_drew)); exact HO187.out) (Kd.R_typed (by (with_reducible repeat (first | apply Kd.R_alloc | apply Kd.R_drewN | apply Kd.R_drew)); exact HO181.out)) (by decide) hg)
               have n5_ := Aside0.mk (hb)
               have n6_ := Aside0.mk (ho)
               clear BK162
               clear BK163
               clear BK166
               clear HO184
               clear HO187
               clear HB
               clear HO181
               have BK162 := n0_
               have BK163 := n1_
               have BK166 := n2_
               have HO184 := n3_
               have HO187 := n4_
               have HB := n5_
               have HO220 := n6_
               clear n0_ n1_ n2_ n3_ n4_ n5_ n6_
               clear ho hb hg hat
               obtain ⟨Ao147, co147, eo147⟩ := Kd.R_slice HO220.out
               (first | subst eo147 | (injection eo147 with f1_ f2_ f3_; have f4_ := f1_.symm; have f5_ := f3_.symm; clear f1_ f2_ f3_; subst f4_; subst f5_))
               refine hK.out _ _ ⟨(blk_cell BK166.out 0).trans rfl, (blk_cell BK166.out 1).trans rfl, (blk_cell BK166.out 2).trans rfl, (blk_cell BK166.out 3).trans rfl, (blk_cell BK166.out 4).trans rfl, (blk_cell BK162.out 0).trans rfl, (blk_cell BK162.out 1).trans rfl, (blk_cell BK162.out 2).trans rfl, (blk_cell BK162.out 3).trans rfl, (blk_cell BK162.out 4).trans rfl⟩ (fun hHeld => ?_)
               clear hK K
               refine norm_ (a' := ?_) ?_ ?_
               rotate_left
               ·show Act.put _ (some 82) _ = _
                simp only [Act.put, List.setIfInBounds_toArray, List.set_cons_zero, List.set_cons_succ, i64_w, i32_w]
                rfl
               refine pure_ (i := 7) (N := some 83) (v := ?_) (a' := ?_) #[true, true, true, true, true, true, true, true, false] rfl rfl (any_of HT_.out (by kernel_rfl)) (fun _ _ _ h => h) (Or.inl ⟨by rfl, ?_⟩) ?_ ?_
               rotate_left
               ·intro w'
                go_simp
                with_reducible rfl
               rotate_left
               ·simp only [Act.put, List.setIfInBounds_toArray, List.set_cons_zero, List.set_cons_succ, i64_w, i32_w]
                rfl
               refine last_ (i := 8) (N := none) #[true, true, true, true, true, true, true, true, true] rfl rfl (one_of HT_.out (by kernel_rfl)) (by decide) (fun K hK => ?_)
               have hs148 : w146.cell? ⟨gb166, 0, none⟩ = some (.slice Ao135 y179.length co135) := (blk_cell BK166.out 0).trans rfl
               have hfs148 := blk_frozen BK166.out 0
               have hns148_0 := NB162_166.out
               have hns148_1 := NB163_166.out
               have hms148_0 := NB166_162.out
               have hms148_1 := NB166_163.out
               refine skip_ (w1 := ?_) (by rfl) rfl ?_ ?_
               rotate_left
               ·go_simp
                rfl
               refine hK.out _ _ ?_
               clear hK K
               refine done_ (done_of HT_.out (by kernel_rfl)) ?_
               try go_wp2
               have n0_ : Aside0 (Kd.R (Kd.int .i64) 3 (w146.setCell ⟨gb166, 0, none⟩ (.slice Ao147 y218.length co147)) w.heap.size (fun k_ => some k_ ≠ (.slice Ao141 y185.length co141 : Value).ownBlock) (.slice Ao138 y182.length co138) y182) := ⟨by (with_reducible repeat (first | apply Kd.R_alloc | apply Kd.R_drewN | apply Kd.R_drew)); exact Kd.R_mono (Kd.R_far (p := ⟨gb166, 0, none⟩) (Kd.R_types HO184.out BK166.out (by decide)) (fun _ hk => hk.2) (.slice Ao147 y218.length co147)) (fun _ hk => hk.1)⟩
               have n1_ : Aside0 (Kd.R (Kd.int .i64) 3 (w146.setCell ⟨gb166, 0, none⟩ (.slice Ao147 y218.length co147)) w.heap.size (fun k_ => some k_ ≠ (.slice Ao138 y182.length co138 : Value).ownBlock) (.slice Ao141 y185.length co141) y185) := ⟨by (with_reducible repeat (first | apply Kd.R_alloc | apply Kd.R_drewN | apply Kd.R_drew)); exact Kd.R_mono (Kd.R_far (p := ⟨gb166, 0, none⟩) (Kd.R_types HO187.out BK166.out (by decide)) (fun _ hk => hk.2) (.slice Ao147 y218.length co147)) (fun _ hk => hk.1)⟩
               have n2_ : Aside0 (Kd.R Kd.string 9 (w146.setCell ⟨gb166, 0, none⟩ (.slice Ao147 y218.length co147)) w.heap.size (fun _ => True) (.slice Ao147 y218.length co147) y218) := ⟨by (with_reducible repeat (first | apply Kd.R_alloc | apply Kd.R_drewN | apply Kd.R_drew)); exact Kd.R_mono (Kd.R_far (p := ⟨gb166, 0, none⟩) (Kd.R_types HO220.out BK166.out (by decide)) (fun _ hk => hk.2) (.slice Ao147 y218.length co147)) (fun _ hk => trivial)⟩
               have n3_ : Aside0 ((w146.setCell ⟨gb166, 0, none⟩ (.slice Ao147 y218.length co147)).heap[gb162]? = some (.cells #[.slice A0_0 l0_0.length c0_0, .slice A0_1 l0_1.length c0_1, .slice A0_2 l0_2.length c0_2, .slice A0_3 l0_3.length c0_3, .slice A0_4 l0_4.length c0_4] 28 (0, 0))) := ⟨by (with_reducible repeat (first | refine blk_drewN ?_ _ | refine blk_drew ?_ | refine blk_alloc ?_ _)); refine blk_far ?_ NB162_166.out _; (with_reducible repeat (first | refine blk_drewN ?_ _ | refine blk_drew ?_ | refine blk_alloc ?_ _)); exact BK162.out⟩
               have n4_ : Aside0 ((w146.setCell ⟨gb166, 0, none⟩ (.slice Ao147 y218.length co147)).heap[gb163]? = some (.cells #[.slice none 0 0, .slice none 0 0, .slice none 0 0, .slice none 0 0, .slice none 0 0] 28 (0, 0))) := ⟨by (with_reducible repeat (first | refine blk_drewN ?_ _ | refine blk_drew ?_ | refine blk_alloc ?_ _)); refine blk_far ?_ NB163_166.out _; (with_reducible repeat (first | refine blk_drewN ?_ _ | refine blk_drew ?_ | refine blk_alloc ?_ _)); exact BK163.out⟩
               have n5_ : Aside0 ((w146.setCell ⟨gb166, 0, none⟩ (.slice Ao147 y218.length co147)).heap[gb166]? = some (.cells #[.slice Ao147 y218.length co147, .slice Ao138 y182.length co138, .slice Ao141 y185.length co141, .slice none 0 0, .slice none 0 0] 28 (0, 0))) := ⟨by (with_reducible repeat (first | refine blk_drewN ?_ _ | refine blk_drew ?_ | refine blk_alloc ?_ _)); refine blk_put (cs := #[.slice Ao135 y179.length co135, .slice Ao138 y182.length co138, .slice Ao141 y185.length co141, .slice none 0 0, .slice none 0 0]) ?_ 0 _ rfl; (with_reducible repeat (first | refine blk_drewN ?_ _ | refine blk_drew ?_ | refine blk_alloc ?_ _)); exact BK166.out⟩
               have n6_ : Aside0 (Below w.heap.size w (w146.setCell ⟨gb166, 0, none⟩ (.slice Ao147 y218.length co147))) := ⟨by repeat (first | (with_reducible first | exact HB.out | apply below_alloc | apply pw_below_drewN | apply below_drew1 | refine below_set ?_ GE162.out | refine below_set ?_ GE163.out | refine below_set ?_ GE166.out) | exact HB.out)⟩
               (try clear HO184)
               (try clear HO187)
               (try clear HO220)
               (try clear BK162)
               (try clear BK163)
               (try clear BK166)
               (try clear HB)
               generalize (w146.setCell ⟨gb166, 0, none⟩ (.slice Ao147 y218.length co147)) = w149 at n0_ n1_ n2_ n3_ n4_ n5_ n6_ ⊢
               have HO184 := n0_
               have HO187 := n1_
               have HO220 := n2_
               have BK162 := n3_
               have BK163 := n4_
               have BK166 := n5_
               have HB := n6_
               clear n0_ n1_ n2_ n3_ n4_ n5_ n6_
               have n0_ := Aside0.mk (Kd.R_drew HO184.out)
               have n1_ := Aside0.mk (Kd.R_drew HO187.out)
               have n2_ := Aside0.mk (Kd.R_drew HO220.out)
               have n3_ := Aside0.mk (blk_drew BK162.out)
               have n4_ := Aside0.mk (blk_drew BK163.out)
               have n5_ := Aside0.mk (blk_drew BK166.out)
               have n6_ := Aside0.mk (below_drew1 HB.out)
               clear HO184
               clear HO187
               clear HO220
               clear BK162
               clear BK163
               clear BK166
               clear HB
               have HO184 := n0_
               have HO187 := n1_
               have HO220 := n2_
               have BK162 := n3_
               have BK163 := n4_
               have BK166 := n5_
               have HB := n6_
               clear n0_ n1_ n2_ n3_ n4_ n5_ n6_
               obtain ⟨i0151, hi0151, _, hsz151, _⟩ := info_parts info3
               obtain ⟨A151, hcut151, hA151, hC151⟩ := print_drop_of (P := Try.prog) (Value.int .i64) 0 26 3 .i64 Try.underlying26 hi0151 hsz151 A0_1 c0_1 l0_1 t164 (of_decide_eq_true (by first | (with_reducible assumption) | assumption)) (of_decide_eq_true (by first | (with_reducible assumption) | assumption)) HC0_1.out
               have HR221 := Aside0.mk (Kd.C_of_reads (h1 := fun _ => rfl) (hA151 _ (Kd.reads_of_C HR0_1.out)))
               have HC221 := Aside0.mk hC151
               clear hA151 hC151 hi0151 hsz151
               refine start_ (n := 9) (S := fun w' => w'.cell? ⟨gb166, 0, none⟩ = some (.slice Ao147 y218.length co147) ∧ w'.cell? ⟨gb166, 1, none⟩ = some (.slice Ao138 y182.length co138) ∧ w'.cell? ⟨gb166, 2, none⟩ = some (.slice Ao141 y185.length co141) ∧ w'.cell? ⟨gb166, 3, none⟩ = some (.slice none 0 0) ∧ w'.cell? ⟨gb166, 4, none⟩ = some (.slice none 0 0) ∧ w'.cell? ⟨gb162, 0, none⟩ = some (.slice A0_0 l0_0.length c0_0) ∧ w'.cell? ⟨gb162, 1, none⟩ = some (.slice A0_1 l0_1.length c0_1) ∧ w'.cell? ⟨gb162, 2, none⟩ = some (.slice A0_2 l0_2.length c0_2) ∧ w'.cell? ⟨gb162, 3, none⟩ = some (.slice A0_3 l0_3.length c0_3) ∧ w'.cell? ⟨gb162, 4, none⟩ = some (.slice A0_4 l0_4.length c0_4)) (ds := [8]) #[false, false, false, false, false, false, false, false, false] (by kernel_rfl) rfl rfl ⟨(blk_cell BK166.out 0).trans rfl, (blk_cell BK166.out 1).trans rfl, (blk_cell BK166.out 2).trans rfl, (blk_cell BK166.out 3).trans rfl, (blk_cell BK166.out 4).trans rfl, (blk_cell BK162.out 0).trans rfl, (blk_cell BK162.out 1).trans rfl, (blk_cell BK162.out 2).trans rfl, (blk_cell BK162.out 3).trans rfl, (blk_cell BK162.out 4).trans rfl⟩ (fun hHeld => ?_); refine with_tabW musterref03_Insert.tab15 musterref03_Insert.bits15 (fun HT_ HW_ => ?_)
               generalize w149.drew = w150 at HO184 HO187 HO220 BK162 BK163 BK166 HB HR221 hHeld ⊢
               refine pure_ (i := 0) (N := some 84) (v := ?_) (a' := ?_) #[true, false, false, false, false, false, false, false, false] rfl rfl (any_of HT_.out (by kernel_rfl)) (fun _ _ _ h => h) (Or.inl ⟨by rfl, ?_⟩) ?_ ?_
               rotate_left
               ·intro w'
                go_simp
                with_reducible rfl
               rotate_left
               ·simp only [Act.put, List.setIfInBounds_toArray, List.set_cons_zero, List.set_cons_succ, i64_w, i32_w]
                rfl
               refine pure_ (i := 2) (N := some 86) (v := ?_) (a' := ?_) #[true, false, true, false, false, false, false, false, false] rfl rfl (any_of HT_.out (by kernel_rfl)) (fun _ _ _ h => h) (Or.inl ⟨by rfl, ?_⟩) ?_ ?_
               rotate_left
               ·intro w'
                go_simp
                with_reducible rfl
               rotate_left
               ·simp only [Act.put, List.setIfInBounds_toArray, List.set_cons_zero, List.set_cons_succ, i64_w, i32_w]
                rfl
               refine pure_ (i := 4) (N := some 88) (v := ?_) (a' := ?_) #[true, false, true, false, true, false, false, false, false] rfl rfl (any_of HT_.out (by kernel_rfl)) (fun _ _ _ h => h) (Or.inl ⟨by rfl, ?_⟩) ?_ ?_
               rotate_left
               ·intro w'
                go_simp
                with_reducible rfl
               rotate_left
               ·simp only [Act.put, List.setIfInBounds_toArray, List.set_cons_zero, List.set_cons_succ, i64_w, i32_w]
                rfl
               refine take_ (i := 1) (N := some 85) (v := ?_) (a' := ?_) #[true, true, true, false, true, false, false, false, false] rfl rfl (take_ofW HT_.out HW_.out (by kernel_rfl)) (fun _ _ _ h => h) (Or.inl ⟨by rfl, ?_⟩) hHeld ?_ ?_
               rotate_left
               ·rintro w' ⟨s0, s1, s2, s3, s4, s5, s6, s7, s8, s9⟩
                go_simp
                with_reducible rfl
               rotate_left
               ·simp only [Act.put, List.setIfInBounds_toArray, List.set_cons_zero, List.set_cons_succ, i64_w, i32_w]
                rfl
               refine take_ (i := 3) (N := some 87) (v := ?_) (a' := ?_) #[true, true, true, true, true, false, false, false, false] rfl rfl (take_ofW HT_.out HW_.out (by kernel_rfl)) (fun _ _ _ h => h) (Or.inl ⟨by rfl, ?_⟩) hHeld ?_ ?_
               rotate_left
               ·rintro w' ⟨s0, s1, s2, s3, s4, s5, s6, s7, s8, s9⟩
                go_simp
                with_reducible rfl
               rotate_left
               ·simp only [Act.put, List.setIfInBounds_toArray, List.set_cons_zero, List.set_cons_succ, i64_w, i32_w]
                rfl
               refine pure_ (i := 5) (N := some 89) (v := ?_) (a' := ?_) #[true, true, true, true, true, true, false, false, false] rfl rfl (any_of HT_.out (by kernel_rfl)) (fun _ _ _ h => h) (Or.inl ⟨by rfl, ?_⟩) ?_ ?_
               rotate_left
               ·intro w'
                go_simp
                with_reducible rfl
               rotate_left
               ·simp only [Act.put, List.setIfInBounds_toArray, List.set_cons_zero, List.set_cons_succ, i64_w, i32_w]
                rfl
               refine one_ (i := 6) (N := some 90) #[true, true, true, true, true, true, true, false, false] rfl rfl (one_of HT_.out (by kernel_rfl)) (by decide) (fun K hK => ?_)
               refine Kd.R_append_rows_step (Kd.int .i64) (w0 := w) w.heap.size (by rfl) (.tmp 85) (.tmp 89) 26 3 (.int .i64 0) 8 rfl Try.underlying26 info3 rfl (by decide) (by omega) (.slice Ao138 y182.length co138) y182 (l0_1.drop (t164 : Int).toNat) _ _ _ (fun k_ => some k_ ≠ (.slice Ao141 y185.length co141 : Value).ownBlock) (fun _ => False) rfl rfl ?aO ?aR (fun _ _ h => h) (fun _ h => h.elim) ?aF ?aB ?aS ?aL ?_
               (case aR => first | (have hz_ := (Kd.C_below HR221.out HB.out); rw [show (l0_1.drop (t164 : Int).toNat).length = (l0_1.length - t164.toNat) from List.length_drop] at hz_; exact hz_) | (rw [← show (l0_1.drop (t164 : Int).toNat).length = (l0_1.length - t164.toNat) from List.length_drop]; repeat (first | exact (Kd.C_below HR221.out HB.out) | (with_reducible refine Kd.C_alloc ?_ _) | (with_reducible refine Kd.C_drewN ?_ _) | (with_reducible refine Kd.C_drew ?_)); done) | (repeat (first | exact (Kd.C_below HR221.out HB.out) | (with_reducible refine Kd.C_alloc ?_ _) | (with_reducible refine Kd.C_drewN ?_ _) | (with_reducible refine Kd.C_drew ?_))))
               (case aB => exact (by repeat (first | (with_reducible first | exact HB.out | apply below_alloc | apply pw_below_drewN | apply below_drew1 | refine below_set ?_ GE162.out | refine below_set ?_ GE163.out | refine below_set ?_ GE166.out) | exact HB.out)))
               (case aF => exact (fun k_ hk => Kd.fresh' (Kd.R_lt (by (with_reducible repeat (first | apply Kd.R_alloc | apply Kd.R_drewN | apply Kd.R_drew)); exact HO187.out)) k_ hk))
               (case aO => exact (by (with_reducible repeat (first | apply Kd.R_alloc | apply Kd.R_drewN | apply Kd.R_drew)); exact HO184.out))
               (case aS => exact (below_size (by repeat (first | (with_reducible first | exact HB.out | apply below_alloc | apply pw_below_drewN | apply below_drew1 | refine below_set ?_ GE162.out | refine below_set ?_ GE163.out | refine below_set ?_ GE166.out) | exact HB.out))))
               (case aL => have := LMc102.out; have hlx_ := (show (l0_1.drop (t164 : Int).toNat).length = (l0_1.length - t164.toNat) from List.length_drop); omega)
               intro v223 w152 ho hb hg hat
               rw [← Ny222.out] at ho
               have n0_ := Aside0.mk (blk_grown (g := gb162) (o := .cells #[.slice A0_0 l0_0.length c0_0, .slice A0_1 l0_1.length c0_1, .slice A0_2 l0_2.length c0_2, .slice A0_3 l0_3.length c0_3, .slice A0_4 l0_4.length c0_4] 28 (0, 0)) (by (with_reducible repeat (first | refine blk_drewN ?_ _ | refine blk_drew ?_ | refine blk_alloc ?_ _)); exact BK162.out) hg (Kd.R_ne HO184.out BK162.out (by decide)))
               have n1_ := Aside0.mk (blk_grown (g := gb163) (o := .cells #[.slice none 0 0, .slice none 0 0, .slice none 0 0, .slice none 0 0, .slice none 0 0] 28 (0, 0)) (by (with_reducible repeat (first | refine blk_drewN ?_ _ | refine blk_drew ?_ | refine blk_alloc ?_ _)); exact BK163.out) hg (Kd.R_ne HO184.out BK163.out (by decide)))
               have n2_ := Aside0.mk (blk_grown (g := gb166) (o := .cells #[.slice Ao147 y218.length co147, .slice Ao138 y182.length co138, .slice Ao141 y185.length co141, .slice none 0 0, .slice none 0 0] 28 (0, 0)) (by (with_reducible repeat (first | refine blk_drewN ?_ _ | refine blk_drew ?_ | refine blk_alloc ?_ _)); exact BK166.out) hg (Kd.R_ne HO184.out BK166.out (by decide)))
               have n3_ := Aside0.mk (Kd.R_after (ok := (fun _ => True)) (by (with_reducible repeat (first | apply Kd.R_alloc | apply Kd.R_drewN | apply Kd.R_drew)); exact Kd.R_mono HO187.out (fun _ hk => ⟨trivial, hk⟩)) hg hat)
               have n4_ := Aside0.mk (Kd.R_over' (by (with_reducible repeat (first | apply Kd.R_alloc | apply Kd.R_drewN | apply Kd.R_drew)); exact HO220.out) (Kd.R_typed (by (with_reducible repeat (first | apply Kd.R_alloc | apply Kd.R_drewN | apply Kd.R_drew)); exact HO184.out)) (by decide) hg)
               have n5_ := Aside0.mk (hb)
               have n6_ := Aside0.mk (ho)
               clear BK162
               clear BK163
               clear BK166
               clear HO187
               clear HO220
               clear HB
               clear HO184
               have BK162 := n0_
               have BK163 := n1_
               have BK166 := n2_
               have HO187 := n3_
               have HO220 := n4_
               have HB := n5_
               have HO224 := n6_
               clear n0_ n1_ n2_ n3_ n4_ n5_ n6_
               clear ho hb hg hat
               obtain ⟨Ao153, co153, eo153⟩ := Kd.R_slice HO224.out
               (first | subst eo153 | (injection eo153 with f1_ f2_ f3_; have f4_ := f1_.symm; have f5_ := f3_.symm; clear f1_ f2_ f3_; subst f4_; subst f5_))
               refine hK.out _ _ ⟨(blk_cell BK166.out 0).trans rfl, (blk_cell BK166.out 1).trans rfl, (blk_cell BK166.out 2).trans rfl, (blk_cell BK166.out 3).trans rfl, (blk_cell BK166.out 4).trans rfl, (blk_cell BK162.out 0).trans rfl, (blk_cell BK162.out 1).trans rfl, (blk_cell BK162.out 2).trans rfl, (blk_cell BK162.out 3).trans rfl, (blk_cell BK162.out 4).trans rfl⟩ (fun hHeld => ?_)
               clear hK K
               refine norm_ (a' := ?_) ?_ ?_
               rotate_left
               ·show Act.put _ (some 90) _ = _
                simp only [Act.put, List.setIfInBounds_toArray, List.set_cons_zero, List.set_cons_succ, i64_w, i32_w]
                rfl
               refine pure_ (i := 7) (N := some 91) (v := ?_) (a' := ?_) #[true, true, true, true, true, true, true, true, false] rfl rfl (any_of HT_.out (by kernel_rfl)) (fun _ _ _ h => h) (Or.inl ⟨by rfl, ?_⟩) ?_ ?_
               rotate_left
               ·intro w'
                go_simp
                with_reducible rfl
               rotate_left
               ·simp only [Act.put, List.setIfInBounds_toArray, List.set_cons_zero, List.set_cons_succ, i64_w, i32_w]
                rfl
               refine last_ (i := 8) (N := none) #[true, true, true, true, true, true, true, true, true] rfl rfl (one_of HT_.out (by kernel_rfl)) (by decide) (fun K hK => ?_)
               have hs154 : w152.cell? ⟨gb166, 1, none⟩ = some (.slice Ao138 y182.length co138) := (blk_cell BK166.out 1).trans rfl
               have hfs154 := blk_frozen BK166.out 1
               have hns154_0 := NB162_166.out
               have hns154_1 := NB163_166.out
               have hms154_0 := NB166_162.out
               have hms154_1 := NB166_163.out
               refine skip_ (w1 := ?_) (by rfl) rfl ?_ ?_
               rotate_left
               ·go_simp
                rfl
               refine hK.out _ _ ?_
               clear hK K
               refine done_ (done_of HT_.out (by kernel_rfl)) ?_
               try go_wp2
               have n0_ : Aside0 (Kd.R (Kd.int .i64) 3 (w152.setCell ⟨gb166, 1, none⟩ (.slice Ao153 y222.length co153)) w.heap.size (fun k_ => some k_ ≠ (.slice Ao153 y222.length co153 : Value).ownBlock) (.slice Ao141 y185.length co141) y185) := ⟨by (with_reducible repeat (first | apply Kd.R_alloc | apply Kd.R_drewN | apply Kd.R_drew)); exact Kd.R_mono (Kd.R_far (p := ⟨gb166, 1, none⟩) (Kd.R_types HO187.out BK166.out (by decide)) (fun _ hk => hk.2) (.slice Ao153 y222.length co153)) (fun _ hk => hk.1.2)⟩
               have n1_ : Aside0 (Kd.R Kd.string 9 (w152.setCell ⟨gb166, 1, none⟩ (.slice Ao153 y222.length co153)) w.heap.size (fun _ => True) (.slice Ao147 y218.length co147) y218) := ⟨by (with_reducible repeat (first | apply Kd.R_alloc | apply Kd.R_drewN | apply Kd.R_drew)); exact Kd.R_mono (Kd.R_far (p := ⟨gb166, 1, none⟩) (Kd.R_types HO220.out BK166.out (by decide)) (fun _ hk => hk.2) (.slice Ao153 y222.length co153)) (fun _ hk => trivial)⟩
               have n2_ : Aside0 (Kd.R (Kd.int .i64) 3 (w152.setCell ⟨gb166, 1, none⟩ (.slice Ao153 y222.length co153)) w.heap.size (fun k_ => some k_ ≠ (.slice Ao141 y185.length co141 : Value).ownBlock) (.slice Ao153 y222.length co153) y222) := ⟨by (with_reducible repeat (first | apply Kd.R_alloc | apply Kd.R_drewN | apply Kd.R_drew)); exact Kd.R_mono (Kd.R_far (p := ⟨gb166, 1, none⟩) (Kd.R_types HO224.out BK166.out (by decide)) (fun _ hk => hk.2) (.slice Ao153 y222.length co153)) (fun _ hk => hk.1)⟩
               have n3_ : Aside0 ((w152.setCell ⟨gb166, 1, none⟩ (.slice Ao153 y222.length co153)).heap[gb162]? = some (.cells #[.slice A0_0 l0_0.length c0_0, .slice A0_1 l0_1.length c0_1, .slice A0_2 l0_2.length c0_2, .slice A0_3 l0_3.length c0_3, .slice A0_4 l0_4.length c0_4] 28 (0, 0))) := ⟨by (with_reducible repeat (first | refine blk_drewN ?_ _ | refine blk_drew ?_ | refine blk_alloc ?_ _)); refine blk_far ?_ NB162_166.out _; (with_reducible repeat (first | refine blk_drewN ?_ _ | refine blk_drew ?_ | refine blk_alloc ?_ _)); exact BK162.out⟩
               have n4_ : Aside0 ((w152.setCell ⟨gb166, 1, none⟩ (.slice Ao153 y222.length co153)).heap[gb163]? = some (.cells #[.slice none 0 0, .slice none 0 0, .slice none 0 0, .slice none 0 0, .slice none 0 0] 28 (0, 0))) := ⟨by (with_reducible repeat (first | refine blk_drewN ?_ _ | refine blk_drew ?_ | refine blk_alloc ?_ _)); refine blk_far ?_ NB163_166.out _; (with_reducible repeat (first | refine blk_drewN ?_ _ | refine blk_drew ?_ | refine blk_alloc ?_ _)); exact BK163.out⟩
               have n5_ : Aside0 ((w152.setCell ⟨gb166, 1, none⟩ (.slice Ao153 y222.length co153)).heap[gb166]? = some (.cells #[.slice Ao147 y218.length co147, .slice Ao153 y222.length co153, .slice Ao141 y185.length co141, .slice none 0 0, .slice none 0 0] 28 (0, 0))) := ⟨by (with_reducible repeat (first | refine blk_drewN ?_ _ | refine blk_drew ?_ | refine blk_alloc ?_ _)); refine blk_put (cs := #[.slice Ao147 y218.length co147, .slice Ao138 y182.length co138, .slice Ao141 y185.length co141, .slice none 0 0, .slice none 0 0]) ?_ 1 _ rfl; (with_reducible repeat (first | refine blk_drewN ?_ _ | refine blk_drew ?_ | refine blk_alloc ?_ _)); exact BK166.out⟩
               have n6_ : Aside0 (Below w.heap.size w (w152.setCell ⟨gb166, 1, none⟩ (.slice Ao153 y222.length co153))) := ⟨by repeat (first | (with_reducible first | exact HB.out | apply below_alloc | apply pw_below_drewN | apply below_drew1 | refine below_set ?_ GE162.out | refine below_set ?_ GE163.out | refine below_set ?_ GE166.out) | exact HB.out)⟩
               (try clear HO187)
               (try clear HO220)
               (try clear HO224)
               (try clear BK162)
               (try clear BK163)
               (try clear BK166)
               (try clear HB)
               generalize (w152.setCell ⟨gb166, 1, none⟩ (.slice Ao153 y222.length co153)) = w155 at n0_ n1_ n2_ n3_ n4_ n5_ n6_ ⊢
               have HO187 := n0_
               have HO220 := n1_
               have HO224 := n2_
               have BK162 := n3_
               have BK163 := n4_
               have BK166 := n5_
               have HB := n6_
               clear n0_ n1_ n2_ n3_ n4_ n5_ n6_
               have n0_ := Aside0.mk (Kd.R_drew HO187.out)
               have n1_ := Aside0.mk (Kd.R_drew HO220.out)
               have n2_ := Aside0.mk (Kd.R_drew HO224.out)
               have n3_ := Aside0.mk (blk_drew BK162.out)
               have n4_ := Aside0.mk (blk_drew BK163.out)
               have n5_ := Aside0.mk (blk_drew BK166.out)
               have n6_ := Aside0.mk (below_drew1 HB.out)
               clear HO187
               clear HO220
               clear HO224
               clear BK162
               clear BK163
               clear BK166
               clear HB
               have HO187 := n0_
               have HO220 := n1_
               have HO224 := n2_
               have BK162 := n3_
               have BK163 := n4_
               have BK166 := n5_
               have HB := n6_
               clear n0_ n1_ n2_ n3_ n4_ n5_ n6_
               obtain ⟨i0157, hi0157, _, hsz157, _⟩ := info_parts info3
               obtain ⟨A157, hcut157, hA157, hC157⟩ := print_drop_of (P := Try.prog) (Value.int .i64) 0 26 3 .i64 Try.underlying26 hi0157 hsz157 A0_2 c0_2 l0_2 t164 (of_decide_eq_true (by first | (with_reducible assumption) | assumption)) (of_decide_eq_true (by first | (with_reducible assumption) | assumption)) HC0_2.out
               have HR225 := Aside0.mk (Kd.C_of_reads (h1 := fun _ => rfl) (hA157 _ (Kd.reads_of_C HR0_2.out)))
               have HC225 := Aside0.mk hC157
               clear hA157 hC157 hi0157 hsz157
               refine start_ (n := 9) (S := fun w' => w'.cell? ⟨gb166, 0, none⟩ = some (.slice Ao147 y218.length co147) ∧ w'.cell? ⟨gb166, 1, none⟩ = some (.slice Ao153 y222.length co153) ∧ w'.cell? ⟨gb166, 2, none⟩ = some (.slice Ao141 y185.length co141) ∧ w'.cell? ⟨gb166, 3, none⟩ = some (.slice none 0 0) ∧ w'.cell? ⟨gb166, 4, none⟩ = some (.slice none 0 0) ∧ w'.cell? ⟨gb162, 0, none⟩ = some (.slice A0_0 l0_0.length c0_0) ∧ w'.cell? ⟨gb162, 1, none⟩ = some (.slice A0_1 l0_1.length c0_1) ∧ w'.cell? ⟨gb162, 2, none⟩ = some (.slice A0_2 l0_2.length c0_2) ∧ w'.cell? ⟨gb162, 3, none⟩ = some (.slice A0_3 l0_3.length c0_3) ∧ w'.cell? ⟨gb162, 4, none⟩ = some (.slice A0_4 l0_4.length c0_4)) (ds := [8]) #[false, false, false, false, false, false, false, false, false] (by kernel_rfl) rfl rfl ⟨(blk_cell BK166.out 0).trans rfl, (blk_cell BK166.out 1).trans rfl, (blk_cell BK166.out 2).trans rfl, (blk_cell BK166.out 3).trans rfl, (blk_cell BK166.out 4).trans rfl, (blk_cell BK162.out 0).trans rfl, (blk_cell BK162.out 1).trans rfl, (blk_cell BK162.out 2).trans rfl, (blk_cell BK162.out 3).trans rfl, (blk_cell BK162.out 4).trans rfl⟩ (fun hHeld => ?_); refine with_tabW musterref03_Insert.tab16 musterref03_Insert.bits16 (fun HT_ HW_ => ?_)
               generalize w155.drew = w156 at HO187 HO220 HO224 BK162 BK163 BK166 HB HR225 hHeld ⊢
               refine pure_ (i := 0) (N := some 92) (v := ?_) (a' := ?_) #[true, false, false, false, false, false, false, false, false] rfl rfl (any_of HT_.out (by kernel_rfl)) (fun _ _ _ h => h) (Or.inl ⟨by rfl, ?_⟩) ?_ ?_
               rotate_left
               ·intro w'
                go_simp
                with_reducible rfl
               rotate_left
               ·simp only [Act.put, List.setIfInBounds_toArray, List.set_cons_zero, List.set_cons_succ, i64_w, i32_w]
                rfl
               refine pure_ (i := 2) (N := some 94) (v := ?_) (a' := ?_) #[true, false, true, false, false, false, false, false, false] rfl rfl (any_of HT_.out (by kernel_rfl)) (fun _ _ _ h => h) (Or.inl ⟨by rfl, ?_⟩) ?_ ?_
               rotate_left
               ·intro w'
                go_simp
                with_reducible rfl
               rotate_left
               ·simp only [Act.put, List.setIfInBounds_toArray, List.set_cons_zero, List.set_cons_succ, i64_w, i32_w]
                rfl
               refine pure_ (i := 4) (N := some 96) (v := ?_) (a' := ?_) #[true, false, true, false, true, false, false, false, false] rfl rfl (any_of HT_.out (by kernel_rfl)) (fun _ _ _ h => h) (Or.inl ⟨by rfl, ?_⟩) ?_ ?_
               rotate_left
               ·intro w'
                go_simp
                with_reducible rfl
               rotate_left
               ·simp only [Act.put, List.setIfInBounds_toArray, List.set_cons_zero, List.set_cons_succ, i64_w, i32_w]
                rfl
               refine take_ (i := 1) (N := some 93) (v := ?_) (a' := ?_) #[true, true, true, false, true, false, false, false, false] rfl rfl (take_ofW HT_.out HW_.out (by kernel_rfl)) (fun _ _ _ h => h) (Or.inl ⟨by rfl, ?_⟩) hHeld ?_ ?_
               rotate_left
               ·rintro w' ⟨s0, s1, s2, s3, s4, s5, s6, s7, s8, s9⟩
                go_simp
                with_reducible rfl
               rotate_left
               ·simp only [Act.put, List.setIfInBounds_toArray, List.set_cons_zero, List.set_cons_succ, i64_w, i32_w]
                rfl
               refine take_ (i := 3) (N := some 95) (v := ?_) (a' := ?_) #[true, true, true, true, true, false, false, false, false] rfl rfl (take_ofW HT_.out HW_.out (by kernel_rfl)) (fun _ _ _ h => h) (Or.inl ⟨by rfl, ?_⟩) hHeld ?_ ?_
               rotate_left
               ·rintro w' ⟨s0, s1, s2, s3, s4, s5, s6, s7, s8, s9⟩
                go_simp
                with_reducible rfl
               rotate_left
               ·simp only [Act.put, List.setIfInBounds_toArray, List.set_cons_zero, List.set_cons_succ, i64_w, i32_w]
                rfl
               refine pure_ (i := 5) (N := some 97) (v := ?_) (a' := ?_) #[true, true, true, true, true, true, false, false, false] rfl rfl (any_of HT_.out (by kernel_rfl)) (fun _ _ _ h => h) (Or.inl ⟨by rfl, ?_⟩) ?_ ?_
               rotate_left
               ·intro w'
                go_simp
                with_reducible rfl
               rotate_left
               ·simp only [Act.put, List.setIfInBounds_toArray, List.set_cons_zero, List.set_cons_succ, i64_w, i32_w]
                rfl
               refine one_ (i := 6) (N := some 98) #[true, true, true, true, true, true, true, false, false] rfl rfl (one_of HT_.out (by kernel_rfl)) (by decide) (fun K hK => ?_)
               refine Kd.R_append_rows_step (Kd.int .i64) (w0 := w) w.heap.size (by rfl) (.tmp 93) (.tmp 97) 26 3 (.int .i64 0) 8 rfl Try.underlying26 info3 rfl (by decide) (by omega) (.slice Ao141 y185.length co141) y185 (l0_2.drop (t164 : Int).toNat) _ _ _ (fun k_ => some k_ ≠ (.slice Ao153 y222.length co153 : Value).ownBlock) (fun _ => False) rfl rfl ?aO ?aR (fun _ _ h => h) (fun _ h => h.elim) ?aF ?aB ?aS ?aL ?_
               (case aR => first | (have hz_ := (Kd.C_below HR225.out HB.out); rw [show (l0_2.drop (t164 : Int).toNat).length = (l0_2.length - t164.toNat) from List.length_drop] at hz_; exact hz_) | (rw [← show (l0_2.drop (t164 : Int).toNat).length = (l0_2.length - t164.toNat) from List.length_drop]; repeat (first | exact (Kd.C_below HR225.out HB.out) | (with_reducible refine Kd.C_alloc ?_ _) | (with_reducible refine Kd.C_drewN ?_ _) | (with_reducible refine Kd.C_drew ?_)); done) | (repeat (first | exact (Kd.C_below HR225.out HB.out) | (with_reducible refine Kd.C_alloc ?_ _) | (with_reducible refine Kd.C_drewN ?_ _) | (with_reducible refine Kd.C_drew ?_))))
               (case aB => exact (by repeat (first | (with_reducible first | exact HB.out | apply below_alloc | apply pw_below_drewN | apply below_drew1 | refine below_set ?_ GE162.out | refine below_set ?_ GE163.out | refine below_set ?_ GE166.out) | exact HB.out)))
               (case aF => exact (fun k_ hk => Kd.fresh' (Kd.R_lt (by (with_reducible repeat (first | apply Kd.R_alloc | apply Kd.R_drewN | apply Kd.R_drew)); exact HO224.out)) k_ hk))
               (case aO => exact (by (with_reducible repeat (first | apply Kd.R_alloc | apply Kd.R_drewN | apply Kd.R_drew)); exact HO187.out))
               (case aS => exact (below_size (by repeat (first | (with_reducible first | exact HB.out | apply below_alloc | apply pw_below_drewN | apply below_drew1 | refine below_set ?_ GE162.out | refine below_set ?_ GE163.out | refine below_set ?_ GE166.out) | exact HB.out))))
               (case aL => have := LMc105.out; have hlx_ := (show (l0_2.drop (t164 : Int).toNat).length = (l0_2.length - t164.toNat) from List.length_drop); omega)
               intro v227 w158 ho hb hg hat
               rw [← Ny226.out] at ho
               have n0_ := Aside0.mk (blk_grown (g := gb162) (o := .cells #[.slice A0_0 l0_0.length c0_0, .slice A0_1 l0_1.length c0_1, .slice A0_2 l0_2.length c0_2, .slice A0_3 l0_3.length c0_3, .slice A0_4 l0_4.length c0_4] 28 (0, 0)) (by (with_reducible repeat (first | refine blk_drewN ?_ _ | refine blk_drew ?_ | refine blk_alloc ?_ _)); exact BK162.out) hg (Kd.R_ne HO187.out BK162.out (by decide)))
               have n1_ := Aside0.mk (blk_grown (g := gb163) (o := .cells #[.slice none 0 0, .slice none 0 0, .slice none 0 0, .slice none 0 0, .slice none 0 0] 28 (0, 0)) (by (with_reducible repeat (first | refine blk_drewN ?_ _ | refine blk_drew ?_ | refine blk_alloc ?_ _)); exact BK163.out) hg (Kd.R_ne HO187.out BK163.out (by decide)))
               have n2_ := Aside0.mk (blk_grown (g := gb166) (o := .cells #[.slice Ao147 y218.length co147, .slice Ao153 y222.length co153, .slice Ao141 y185.length co141, .slice none 0 0, .slice none 0 0] 28 (0, 0)) (by (with_reducible repeat (first | refine blk_drewN ?_ _ | refine blk_drew ?_ | refine blk_alloc ?_ _)); exact BK166.out) hg (Kd.R_ne HO187.out BK166.out (by decide)))
               have n3_ := Aside0.mk (Kd.R_over' (by (with_reducible repeat (first | apply Kd.R_alloc | apply Kd.R_drewN | apply Kd.R_drew)); exact HO220.out) (Kd.R_typed (by (with_reducible repeat (first | apply Kd.R_alloc | apply Kd.R_drewN | apply Kd.R_drew)); exact HO187.out)) (by decide) hg)
               have n4_ := Aside0.mk (Kd.R_after (ok := (fun _ => True)) (by (with_reducible repeat (first | apply Kd.R_alloc | apply Kd.R_drewN | apply Kd.R_drew)); exact Kd.R_mono HO224.out (fun _ hk => ⟨trivial, hk⟩)) hg hat)
               have n5_ := Aside0.mk (hb)
               have n6_ := Aside0.mk (ho)
               clear BK162
               clear BK163
               clear BK166
               clear HO220
               clear HO224
               clear HB
               clear HO187
               have BK162 := n0_
               have BK163 := n1_
               have BK166 := n2_
               have HO220 := n3_
               have HO224 := n4_
               have HB := n5_
               have HO228 := n6_
               clear n0_ n1_ n2_ n3_ n4_ n5_ n6_
               clear ho hb hg hat
               obtain ⟨Ao159, co159, eo159⟩ := Kd.R_slice HO228.out
               (first | subst eo159 | (injection eo159 with f1_ f2_ f3_; have f4_ := f1_.symm; have f5_ := f3_.symm; clear f1_ f2_ f3_; subst f4_; subst f5_))
               refine hK.out _ _ ⟨(blk_cell BK166.out 0).trans rfl, (blk_cell BK166.out 1).trans rfl, (blk_cell BK166.out 2).trans rfl, (blk_cell BK166.out 3).trans rfl, (blk_cell BK166.out 4).trans rfl, (blk_cell BK162.out 0).trans rfl, (blk_cell BK162.out 1).trans rfl, (blk_cell BK162.out 2).trans rfl, (blk_cell BK162.out 3).trans rfl, (blk_cell BK162.out 4).trans rfl⟩ (fun hHeld => ?_)
               clear hK K
               refine norm_ (a' := ?_) ?_ ?_
               rotate_left
               ·show Act.put _ (some 98) _ = _
                simp only [Act.put, List.setIfInBounds_toArray, List.set_cons_zero, List.set_cons_succ, i64_w, i32_w]
                rfl
               refine pure_ (i := 7) (N := some 99) (v := ?_) (a' := ?_) #[true, true, true, true, true, true, true, true, false] rfl rfl (any_of HT_.out (by kernel_rfl)) (fun _ _ _ h => h) (Or.inl ⟨by rfl, ?_⟩) ?_ ?_
               rotate_left
               ·intro w'
                go_simp
                with_reducible rfl
               rotate_left
               ·simp only [Act.put, List.setIfInBounds_toArray, List.set_cons_zero, List.set_cons_succ, i64_w, i32_w]
                rfl
               refine last_ (i := 8) (N := none) #[true, true, true, true, true, true, true, true, true] rfl rfl (one_of HT_.out (by kernel_rfl)) (by decide) (fun K hK => ?_)
               have hs160 : w158.cell? ⟨gb166, 2, none⟩ = some (.slice Ao141 y185.length co141) := (blk_cell BK166.out 2).trans rfl
               have hfs160 := blk_frozen BK166.out 2
               have hns160_0 := NB162_166.out
               have hns160_1 := NB163_166.out
               have hms160_0 := NB166_162.out
               have hms160_1 := NB166_163.out
               refine skip_ (w1 := ?_) (by rfl) rfl ?_ ?_
               rotate_left
               ·go_simp
                rfl
               refine hK.out _ _ ?_
               clear hK K
               refine done_ (done_of HT_.out (by kernel_rfl)) ?_
               have n0_ : Aside0 (Kd.R Kd.string 9 (w158.setCell ⟨gb166, 2, none⟩ (.slice Ao159 y226.length co159)) w.heap.size (fun _ => True) (.slice Ao147 y218.length co147) y218) := ⟨by (with_reducible repeat (first | apply Kd.R_alloc | apply Kd.R_drewN | apply Kd.R_drew)); exact Kd.R_mono (Kd.R_far (p := ⟨gb166, 2, none⟩) (Kd.R_types HO220.out BK166.out (by decide)) (fun _ hk => hk.2) (.slice Ao159 y226.length co159)) (fun _ hk => trivial)⟩
               have n1_ : Aside0 (Kd.R (Kd.int .i64) 3 (w158.setCell ⟨gb166, 2, none⟩ (.slice Ao159 y226.length co159)) w.heap.size (fun k_ => some k_ ≠ (.slice Ao159 y226.length co159 : Value).ownBlock) (.slice Ao153 y222.length co153) y222) := ⟨by (with_reducible repeat (first | apply Kd.R_alloc | apply Kd.R_drewN | apply Kd.R_drew)); exact Kd.R_mono (Kd.R_far (p := ⟨gb166, 2, none⟩) (Kd.R_types HO224.out BK166.out (by decide)) (fun _ hk => hk.2) (.slice Ao159 y226.length co159)) (fun _ hk => hk.1.2)⟩
               have n2_ : Aside0 (Kd.R (Kd.int .i64) 3 (w158.setCell ⟨gb166, 2, none⟩ (.slice Ao159 y226.length co159)) w.heap.size (fun k_ => some k_ ≠ (.slice Ao153 y222.length co153 : Value).ownBlock) (.slice Ao159 y226.length co159) y226) := ⟨by (with_reducible repeat (first | apply Kd.R_alloc | apply Kd.R_drewN | apply Kd.R_drew)); exact Kd.R_mono (Kd.R_far (p := ⟨gb166, 2, none⟩) (Kd.R_types HO228.out BK166.out (by decide)) (fun _ hk => hk.2) (.slice Ao159 y226.length co159)) (fun _ hk => hk.1)⟩
               have n3_ : Aside0 ((w158.setCell ⟨gb166, 2, none⟩ (.slice Ao159 y226.length co159)).heap[gb162]? = some (.cells #[.slice A0_0 l0_0.length c0_0, .slice A0_1 l0_1.length c0_1, .slice A0_2 l0_2.length c0_2, .slice A0_3 l0_3.length c0_3, .slice A0_4 l0_4.length c0_4] 28 (0, 0))) := ⟨by (with_reducible repeat (first | refine blk_drewN ?_ _ | refine blk_drew ?_ | refine blk_alloc ?_ _)); refine blk_far ?_ NB162_166.out _; (with_reducible repeat (first | refine blk_drewN ?_ _ | refine blk_drew ?_ | refine blk_alloc ?_ _)); exact BK162.out⟩
               have n4_ : Aside0 ((w158.setCell ⟨gb166, 2, none⟩ (.slice Ao159 y226.length co159)).heap[gb163]? = some (.cells #[.slice none 0 0, .slice none 0 0, .slice none 0 0, .slice none 0 0, .slice none 0 0] 28 (0, 0))) := ⟨by (with_reducible repeat (first | refine blk_drewN ?_ _ | refine blk_drew ?_ | refine blk_alloc ?_ _)); refine blk_far ?_ NB163_166.out _; (with_reducible repeat (first | refine blk_drewN ?_ _ | refine blk_drew ?_ | refine blk_alloc ?_ _)); exact BK163.out⟩
               have n5_ : Aside0 ((w158.setCell ⟨gb166, 2, none⟩ (.slice Ao159 y226.length co159)).heap[gb166]? = some (.cells #[.slice Ao147 y218.length co147, .slice Ao153 y222.length co153, .slice Ao159 y226.length co159, .slice none 0 0, .slice none 0 0] 28 (0, 0))) := ⟨by (with_reducible repeat (first | refine blk_drewN ?_ _ | refine blk_drew ?_ | refine blk_alloc ?_ _)); refine blk_put (cs := #[.slice Ao147 y218.length co147, .slice Ao153 y222.length co153, .slice Ao141 y185.length co141, .slice none 0 0, .slice none 0 0]) ?_ 2 _ rfl; (with_reducible repeat (first | refine blk_drewN ?_ _ | refine blk_drew ?_ | refine blk_alloc ?_ _)); exact BK166.out⟩
               have n6_ : Aside0 (Below w.heap.size w (w158.setCell ⟨gb166, 2, none⟩ (.slice Ao159 y226.length co159))) := ⟨by repeat (first | (with_reducible first | exact HB.out | apply below_alloc | apply pw_below_drewN | apply below_drew1 | refine below_set ?_ GE162.out | refine below_set ?_ GE163.out | refine below_set ?_ GE166.out) | exact HB.out)⟩
               (try clear HO220)
               (try clear HO224)
               (try clear HO228)
               (try clear BK162)
               (try clear BK163)
               (try clear BK166)
               (try clear HB)
               generalize (w158.setCell ⟨gb166, 2, none⟩ (.slice Ao159 y226.length co159)) = w161 at n0_ n1_ n2_ n3_ n4_ n5_ n6_ ⊢
               have HO220 := n0_
               have HO224 := n1_
               have HO228 := n2_
               have BK162 := n3_
               have BK163 := n4_
               have BK166 := n5_
               have HB := n6_
               clear n0_ n1_ n2_ n3_ n4_ n5_ n6_
               have hcz162_0 : w161.cell? ⟨gb162, 0, none⟩ = some (.slice A0_0 l0_0.length c0_0) := (blk_cell BK162.out 0).trans rfl
               have hcz162_1 : w161.cell? ⟨gb162, 1, none⟩ = some (.slice A0_1 l0_1.length c0_1) := (blk_cell BK162.out 1).trans rfl
               have hcz162_2 : w161.cell? ⟨gb162, 2, none⟩ = some (.slice A0_2 l0_2.length c0_2) := (blk_cell BK162.out 2).trans rfl
               have hcz162_3 : w161.cell? ⟨gb162, 3, none⟩ = some (.slice A0_3 l0_3.length c0_3) := (blk_cell BK162.out 3).trans rfl
               have hcz162_4 : w161.cell? ⟨gb162, 4, none⟩ = some (.slice A0_4 l0_4.length c0_4) := (blk_cell BK162.out 4).trans rfl
               have hfz162_0 := blk_frozen BK162.out 0
               have hfz162_1 := blk_frozen BK162.out 1
               have hfz162_2 := blk_frozen BK162.out 2
               have hfz162_3 := blk_frozen BK162.out 3
               have hfz162_4 := blk_frozen BK162.out 4
               have hcz163_0 : w161.cell? ⟨gb166, 0, none⟩ = some (.slice Ao147 y218.length co147) := (blk_cell BK166.out 0).trans rfl
               have hcz163_1 : w161.cell? ⟨gb166, 1, none⟩ = some (.slice Ao153 y222.length co153) := (blk_cell BK166.out 1).trans rfl
               have hcz163_2 : w161.cell? ⟨gb166, 2, none⟩ = some (.slice Ao159 y226.length co159) := (blk_cell BK166.out 2).trans rfl
               have hcz163_3 : w161.cell? ⟨gb166, 3, none⟩ = some (.slice none 0 0) := (blk_cell BK166.out 3).trans rfl
               have hcz163_4 : w161.cell? ⟨gb166, 4, none⟩ = some (.slice none 0 0) := (blk_cell BK166.out 4).trans rfl
               have hfz163_0 := blk_frozen BK166.out 0
               have hfz163_1 := blk_frozen BK166.out 1
               have hfz163_2 := blk_frozen BK166.out 2
               have hfz163_3 := blk_frozen BK166.out 3
               have hfz163_4 := blk_frozen BK166.out 4
               try go_wp2_with (first | ((with_reducible refine gate_callee (f := 92) rfl ?_); refine goesL_ (some 106) rfl rfl Try.func92 (by kernel_rfl) rfl #[.agg #[.slice A0_0 l0_0.length c0_0, .slice A0_1 l0_1.length c0_1, .slice A0_2 l0_2.length c0_2, .slice A0_3 l0_3.length c0_3, .slice A0_4 l0_4.length c0_4], .agg #[.slice Ao147 y218.length co147, .slice Ao153 y222.length co153, .slice Ao159 y226.length co159, .slice none 0 0, .slice none 0 0], .string a1, .int .i64 (wrap64 (a3 + 1))] rfl (by (try simp only [List.map_toArray, List.map_cons, List.map_nil]); first | done | rfl | (simp only [List.length_drop, List.length_take]; rfl)) ?_; (refine (musterref03_remade.calls k _ _ l0_0 _ _ l0_1 _ _ l0_2 _ _ l0_3 _ _ l0_4 (fun k_ => some k_ = (.slice Ao147 y218.length co147 : Value).ownBlock) (.slice Ao147 y218.length co147) y218 (fun k_ => some k_ = (.slice Ao153 y222.length co153 : Value).ownBlock) (.slice Ao153 y222.length co153) y222 (fun k_ => some k_ = (.slice Ao159 y226.length co159 : Value).ownBlock) (.slice Ao159 y226.length co159) y226 _ _ ([] : List ByteArray) _ _ ([] : List Int) a1 (wrap64 (a3 + 1)) t229 t232 t235 t238 t241 t244 w _ ?side1 ?side2 ?side3 ?side4 ?side5 ?side6 ?side7 ?side8 ?side9 ?side10 ?side11 ?side12 ?side13 ?side14 ?side15 ?side16 ?side17 ?side18 ?side19 ?side20 A106.out).mono ?_); (case side1 => repeat (first | (with_reducible first | exact HB.out | apply below_alloc | apply pw_below_drewN | apply below_drew1 | refine below_set ?_ GE162.out | refine below_set ?_ GE163.out | refine below_set ?_ GE166.out) | exact HB.out)); (case side2 => exact Kd.C_kept_came Kd.heap_string HR0_0.out (by repeat (first | (with_reducible first | exact HB.out | apply below_alloc | apply pw_below_drewN | apply below_drew1 | refine below_set ?_ GE162.out | refine below_set ?_ GE163.out | refine below_set ?_ GE166.out) | exact HB.out)) (fun k_ hs_ => Or.elim hs_ (fun e_ => (fun e_ => Kd.R_base HO220.out k_ e_.symm) e_) (fun e_ => Or.elim e_ (fun e_ => (fun e_ => Kd.R_base HO224.out k_ e_.symm) e_) (fun e_ => (fun e_ => Kd.R_base HO228.out k_ e_.symm) e_)))); (case side3 => exact HC0_0.out); (case side4 => exact Kd.C_kept_came (Kd.heap_int .i64) HR0_1.out (by repeat (first | (with_reducible first | exact HB.out | apply below_alloc | apply pw_below_drewN | apply below_drew1 | refine below_set ?_ GE162.out | refine below_set ?_ GE163.out | refine below_set ?_ GE166.out) | exact HB.out)) (fun k_ hs_ => Or.elim hs_ (fun e_ => (fun e_ => Kd.R_base HO220.out k_ e_.symm) e_) (fun e_ => Or.elim e_ (fun e_ => (fun e_ => Kd.R_base HO224.out k_ e_.symm) e_) (fun e_ => (fun e_ => Kd.R_base HO228.out k_ e_.symm) e_)))); (case side5 => exact HC0_1.out); (case side6 => exact Kd.C_kept_came (Kd.heap_int .i64) HR0_2.out (by repeat (first | (with_reducible first | exact HB.out | apply below_alloc | apply pw_below_drewN | apply below_drew1 | refine below_set ?_ GE162.out | refine below_set ?_ GE163.out | refine below_set ?_ GE166.out) | exact HB.out)) (fun k_ hs_ => Or.elim hs_ (fun e_ => (fun e_ => Kd.R_base HO220.out k_ e_.symm) e_) (fun e_ => Or.elim e_ (fun e_ => (fun e_ => Kd.R_base HO224.out k_ e_.symm) e_) (fun e_ => (fun e_ => Kd.R_base HO228.out k_ e_.symm) e_)))); (case side7 => exact HC0_2.out); (case side8 => exact Kd.C_kept_came Kd.heap_string HR0_3.out (by repeat (first | (with_reducible first | exact HB.out | apply below_alloc | apply pw_below_drewN | apply below_drew1 | refine below_set ?_ GE162.out | refine below_set ?_ GE163.out | refine below_set ?_ GE166.out) | exact HB.out)) (fun k_ hs_ => Or.elim hs_ (fun e_ => (fun e_ => Kd.R_base HO220.out k_ e_.symm) e_) (fun e_ => Or.elim e_ (fun e_ => (fun e_ => Kd.R_base HO224.out k_ e_.symm) e_) (fun e_ => (fun e_ => Kd.R_base HO228.out k_ e_.symm) e_)))); (case side9 => exact HC0_3.out); (case side10 => exact Kd.C_kept_came (Kd.heap_int .i64) HR0_4.out (by repeat (first | (with_reducible first | exact HB.out | apply below_alloc | apply pw_below_drewN | apply below_drew1 | refine below_set ?_ GE162.out | refine below_set ?_ GE163.out | refine below_set ?_ GE166.out) | exact HB.out)) (fun k_ hs_ => Or.elim hs_ (fun e_ => (fun e_ => Kd.R_base HO220.out k_ e_.symm) e_) (fun e_ => Or.elim e_ (fun e_ => (fun e_ => Kd.R_base HO224.out k_ e_.symm) e_) (fun e_ => (fun e_ => Kd.R_base HO228.out k_ e_.symm) e_)))); (case side11 => exact HC0_4.out); (case side12 => exact Kd.R_tight rfl HO220.out); (case side13 => exact Kd.R_tight rfl HO224.out); (case side14 => exact fun k_ e_ => (HO224.out.1 k_ e_.symm)); (case side15 => exact Kd.R_tight rfl HO228.out); (case side16 => exact fun k_ e_ => (HO228.out.1 k_ e_.symm)); (case side17 => exact Kd.C_kept_nil); (case side18 => exact Nat.le_refl _); (case side19 => exact Kd.C_kept_nil); (case side20 => exact Nat.le_refl _); rintro e w164 ⟨v230, v233, v236, v239, v242, rfl, ho0, ho1, ho2, ho3, ho4, hb, hkp⟩; refine ⟨_, rfl, ?_⟩; have n0_ := Aside0.mk (blk_kept (by (with_reducible repeat (first | refine blk_drewN ?_ _ | refine blk_drew ?_ | refine blk_alloc ?_ _)); exact BK162.out) hkp (fun hs_ => Or.elim hs_ (fun e_ => (fun e_ => (Kd.R_ne HO220.out BK162.out (by decide)) e_) e_) (fun e_ => Or.elim e_ (fun e_ => (fun e_ => (Kd.R_ne HO224.out BK162.out (by decide)) e_) e_) (fun e_ => (fun e_ => (Kd.R_ne HO228.out BK162.out (by decide)) e_) e_)))); have n1_ := Aside0.mk (blk_kept (by (with_reducible repeat (first | refine blk_drewN ?_ _ | refine blk_drew ?_ | refine blk_alloc ?_ _)); exact BK163.out) hkp (fun hs_ => Or.elim hs_ (fun e_ => (fun e_ => (Kd.R_ne HO220.out BK163.out (by decide)) e_) e_) (fun e_ => Or.elim e_ (fun e_ => (fun e_ => (Kd.R_ne HO224.out BK163.out (by decide)) e_) e_) (fun e_ => (fun e_ => (Kd.R_ne HO228.out BK163.out (by decide)) e_) e_)))); have n2_ := Aside0.mk (blk_kept (by (with_reducible repeat (first | refine blk_drewN ?_ _ | refine blk_drew ?_ | refine blk_alloc ?_ _)); exact BK166.out) hkp (fun hs_ => Or.elim hs_ (fun e_ => (fun e_ => (Kd.R_ne HO220.out BK166.out (by decide)) e_) e_) (fun e_ => Or.elim e_ (fun e_ => (fun e_ => (Kd.R_ne HO224.out BK166.out (by decide)) e_) e_) (fun e_ => (fun e_ => (Kd.R_ne HO228.out BK166.out (by decide)) e_) e_)))); have n3_ := Aside0.mk (Kd.R_mono (ok' := fun k_ => some k_ ≠ (v239 : Value).ownBlock) ho0 (fun k_ hk_ => hk_.2)); have n4_ := Aside0.mk (Kd.R_mono (ok' := fun k_ => some k_ ≠ (v236 : Value).ownBlock ∧ some k_ ≠ (v242 : Value).ownBlock) ho1 (fun k_ hk_ => ⟨hk_.2.1, hk_.2.2⟩)); have n5_ := Aside0.mk (Kd.R_mono (ok' := fun k_ => some k_ ≠ (v233 : Value).ownBlock ∧ some k_ ≠ (v242 : Value).ownBlock) ho2 (fun k_ hk_ => ⟨hk_.2.1, hk_.2.2⟩)); have n6_ := Aside0.mk (Kd.R_mono (ok' := fun k_ => some k_ ≠ (v230 : Value).ownBlock) ho3 (fun k_ hk_ => hk_.2)); have n7_ := Aside0.mk (Kd.R_mono (ok' := fun k_ => some k_ ≠ (v233 : Value).ownBlock ∧ some k_ ≠ (v236 : Value).ownBlock) ho4 (fun k_ hk_ => ⟨hk_.2.1, hk_.2.2⟩)); have n8_ := Aside0.mk (hb); clear BK162; clear BK163; clear BK166; clear HB; clear HO220; clear HO224; clear HO228; have BK162 := n0_; have BK163 := n1_; have BK166 := n2_; have HO231 := n3_; have HO234 := n4_; have HO237 := n5_; have HO240 := n6_; have HO243 := n7_; have HB := n8_; clear n0_ n1_ n2_ n3_ n4_ n5_ n6_ n7_ n8_; (try clear hb); (try clear hkp); (try clear ho0); (try clear ho1); (try clear ho2); (try clear ho3); (try clear ho4); obtain ⟨Ao165, co165, eo165⟩ := Kd.R_slice HO231.out; subst eo165; have hcz166_0 : w164.cell? ⟨gb166, 0, none⟩ = some (.slice Ao147 y218.length co147) := (blk_cell BK166.out 0).trans rfl; have hcz166_1 : w164.cell? ⟨gb166, 1, none⟩ = some (.slice Ao153 y222.length co153) := (blk_cell BK166.out 1).trans rfl; have hcz166_2 : w164.cell? ⟨gb166, 2, none⟩ = some (.slice Ao159 y226.length co159) := (blk_cell BK166.out 2).trans rfl; have hcz166_3 : w164.cell? ⟨gb166, 3, none⟩ = some (.slice none 0 0) := (blk_cell BK166.out 3).trans rfl; have hcz166_4 : w164.cell? ⟨gb166, 4, none⟩ = some (.slice none 0 0) := (blk_cell BK166.out 4).trans rfl; have hfz166_0 := blk_frozen BK166.out 0; have hfz166_1 := blk_frozen BK166.out 1; have hfz166_2 := blk_frozen BK166.out 2; have hfz166_3 := blk_frozen BK166.out 3; have hfz166_4 := blk_frozen BK166.out 4; obtain ⟨Ao167, co167, eo167⟩ := Kd.R_slice HO234.out; subst eo167; obtain ⟨Ao168, co168, eo168⟩ := Kd.R_slice HO237.out; subst eo168; obtain ⟨Ao169, co169, eo169⟩ := Kd.R_slice HO240.out; subst eo169; obtain ⟨Ao170, co170, eo170⟩ := Kd.R_slice HO243.out; subst eo170; have hcz171_0 : w164.cell? ⟨gb163, 0, none⟩ = some (.slice none 0 0) := (blk_cell BK163.out 0).trans rfl; have hcz171_1 : w164.cell? ⟨gb163, 1, none⟩ = some (.slice none 0 0) := (blk_cell BK163.out 1).trans rfl; have hcz171_2 : w164.cell? ⟨gb163, 2, none⟩ = some (.slice none 0 0) := (blk_cell BK163.out 2).trans rfl; have hcz171_3 : w164.cell? ⟨gb163, 3, none⟩ = some (.slice none 0 0) := (blk_cell BK163.out 3).trans rfl; have hcz171_4 : w164.cell? ⟨gb163, 4, none⟩ = some (.slice none 0 0) := (blk_cell BK163.out 4).trans rfl; have hfz171_0 := blk_frozen BK163.out 0; have hfz171_1 := blk_frozen BK163.out 1; have hfz171_2 := blk_frozen BK163.out 2; have hfz171_3 := blk_frozen BK163.out 3; have hfz171_4 := blk_frozen BK163.out 4))
               refine bodyPost_ret (results_list (rs := [.cell 8 28, .tmp 9, .tmp 10, .tmp 11]) rfl (by simp) (.cell gb163 28 #[.slice Ao165 t229.length co165, .slice Ao167 t232.length co167, .slice Ao168 t235.length co168, .slice Ao169 t238.length co169, .slice Ao170 t241.length co170] (0, 0) _ rfl (by (with_reducible repeat (first | refine blk_drewN ?_ _ | refine blk_drew ?_ | refine blk_alloc ?_ _)); refine blk_put (cs := #[.slice Ao165 t229.length co165, .slice Ao167 t232.length co167, .slice Ao168 t235.length co168, .slice Ao169 t238.length co169, .slice none 0 0]) ?_ 4 _ rfl; (with_reducible repeat (first | refine blk_drewN ?_ _ | refine blk_drew ?_ | refine blk_alloc ?_ _)); refine blk_put (cs := #[.slice Ao165 t229.length co165, .slice Ao167 t232.length co167, .slice Ao168 t235.length co168, .slice none 0 0, .slice none 0 0]) ?_ 3 _ rfl; (with_reducible repeat (first | refine blk_drewN ?_ _ | refine blk_drew ?_ | refine blk_alloc ?_ _)); refine blk_put (cs := #[.slice Ao165 t229.length co165, .slice Ao167 t232.length co167, .slice none 0 0, .slice none 0 0, .slice none 0 0]) ?_ 2 _ rfl; (with_reducible repeat (first | refine blk_drewN ?_ _ | refine blk_drew ?_ | refine blk_alloc ?_ _)); refine blk_put (cs := #[.slice Ao165 t229.length co165, .slice none 0 0, .slice none 0 0, .slice none 0 0, .slice none 0 0]) ?_ 1 _ rfl; (with_reducible repeat (first | refine blk_drewN ?_ _ | refine blk_drew ?_ | refine blk_alloc ?_ _)); refine blk_put (cs := #[.slice none 0 0, .slice none 0 0, .slice none 0 0, .slice none 0 0, .slice none 0 0]) ?_ 0 _ rfl; (with_reducible repeat (first | refine blk_drewN ?_ _ | refine blk_drew ?_ | refine blk_alloc ?_ _)); refine blk_far ?_ NB163_166.out _; (with_reducible repeat (first | refine blk_drewN ?_ _ | refine blk_drew ?_ | refine blk_alloc ?_ _)); refine blk_far ?_ NB163_166.out _; (with_reducible repeat (first | refine blk_drewN ?_ _ | refine blk_drew ?_ | refine blk_alloc ?_ _)); refine blk_far ?_ NB163_166.out _; (with_reducible repeat (first | refine blk_drewN ?_ _ | refine blk_drew ?_ | refine blk_alloc ?_ _)); refine blk_far ?_ NB163_166.out _; (with_reducible repeat (first | refine blk_drewN ?_ _ | refine blk_drew ?_ | refine blk_alloc ?_ _)); refine blk_far ?_ NB163_166.out _; (with_reducible repeat (first | refine blk_drewN ?_ _ | refine blk_drew ?_ | refine blk_alloc ?_ _)); exact BK163.out) Try.underlying28 rfl (by kernel_rfl) (.tmp (.tmp (.tmp .nil))))) rfl ?_
               exact ⟨_, _, _, _, _, by first | rfl | (simp [errW_none, errW_some] <;> rfl) | (simp [*, errW_none, errW_some] <;> rfl), by (with_reducible repeat (first | apply Kd.R_alloc | apply Kd.R_drewN | apply Kd.R_drew)); exact Kd.R_mono (Kd.R_far (p := ⟨gb163, 4, none⟩) (Kd.R_far (p := ⟨gb163, 3, none⟩) (Kd.R_far (p := ⟨gb163, 2, none⟩) (Kd.R_far (p := ⟨gb163, 1, none⟩) (Kd.R_far (p := ⟨gb163, 0, none⟩) (Kd.R_far (p := ⟨gb166, 4, none⟩) (Kd.R_far (p := ⟨gb166, 3, none⟩) (Kd.R_far (p := ⟨gb166, 2, none⟩) (Kd.R_far (p := ⟨gb166, 1, none⟩) (Kd.R_far (p := ⟨gb166, 0, none⟩) (Kd.R_types (Kd.R_types HO231.out BK166.out (by decide)) BK163.out (by decide)) (fun _ hk => hk.1.2) (.slice Ao165 t229.length co165)) (fun _ hk => hk.1.2) (.slice Ao167 t232.length co167)) (fun _ hk => hk.1.2) (.slice Ao168 t235.length co168)) (fun _ hk => hk.1.2) (.slice Ao169 t238.length co169)) (fun _ hk => hk.1.2) (.slice Ao170 t241.length co170)) (fun _ hk => hk.2) (.slice Ao165 t229.length co165)) (fun _ hk => hk.2) (.slice Ao167 t232.length co167)) (fun _ hk => hk.2) (.slice Ao168 t235.length co168)) (fun _ hk => hk.2) (.slice Ao169 t238.length co169)) (fun _ hk => hk.2) (.slice Ao170 t241.length co170)) (fun _ hk => hk.1.1), by (with_reducible repeat (first | apply Kd.R_alloc | apply Kd.R_drewN | apply Kd.R_drew)); exact Kd.R_mono (Kd.R_far (p := ⟨gb163, 4, none⟩) (Kd.R_far (p := ⟨gb163, 3, none⟩) (Kd.R_far (p := ⟨gb163, 2, none⟩) (Kd.R_far (p := ⟨gb163, 1, none⟩) (Kd.R_far (p := ⟨gb163, 0, none⟩) (Kd.R_far (p := ⟨gb166, 4, none⟩) (Kd.R_far (p := ⟨gb166, 3, none⟩) (Kd.R_far (p := ⟨gb166, 2, none⟩) (Kd.R_far (p := ⟨gb166, 1, none⟩) (Kd.R_far (p := ⟨gb166, 0, none⟩) (Kd.R_types (Kd.R_types HO234.out BK166.out (by decide)) BK163.out (by decide)) (fun _ hk => hk.1.2) (.slice Ao165 t229.length co165)) (fun _ hk => hk.1.2) (.slice Ao167 t232.length co167)) (fun _ hk => hk.1.2) (.slice Ao168 t235.length co168)) (fun _ hk => hk.1.2) (.slice Ao169 t238.length co169)) (fun _ hk => hk.1.2) (.slice Ao170 t241.length co170)) (fun _ hk => hk.2) (.slice Ao165 t229.length co165)) (fun _ hk => hk.2) (.slice Ao167 t232.length co167)) (fun _ hk => hk.2) (.slice Ao168 t235.length co168)) (fun _ hk => hk.2) (.slice Ao169 t238.length co169)) (fun _ hk => hk.2) (.slice Ao170 t241.length co170)) (fun _ hk => ⟨hk.1.1.1, hk.1.1.2⟩), by (with_reducible repeat (first | apply Kd.R_alloc | apply Kd.R_drewN | apply Kd.R_drew)); exact Kd.R_mono (Kd.R_far (p := ⟨gb163, 4, none⟩) (Kd.R_far (p := ⟨gb163, 3, none⟩) (Kd.R_far (p := ⟨gb163, 2, none⟩) (Kd.R_far (p := ⟨gb163, 1, none⟩) (Kd.R_far (p := ⟨gb163, 0, none⟩) (Kd.R_far (p := ⟨gb166, 4, none⟩) (Kd.R_far (p := ⟨gb166, 3, none⟩) (Kd.R_far (p := ⟨gb166, 2, none⟩) (Kd.R_far (p := ⟨gb166, 1, none⟩) (Kd.R_far (p := ⟨gb166, 0, none⟩) (Kd.R_types (Kd.R_types HO237.out BK166.out (by decide)) BK163.out (by decide)) (fun _ hk => hk.1.2) (.slice Ao165 t229.length co165)) (fun _ hk => hk.1.2) (.slice Ao167 t232.length co167)) (fun _ hk => hk.1.2) (.slice Ao168 t235.length co168)) (fun _ hk => hk.1.2) (.slice Ao169 t238.length co169)) (fun _ hk => hk.1.2) (.slice Ao170 t241.length co170)) (fun _ hk => hk.2) (.slice Ao165 t229.length co165)) (fun _ hk => hk.2) (.slice Ao167 t232.length co167)) (fun _ hk => hk.2) (.slice Ao168 t235.length co168)) (fun _ hk => hk.2) (.slice Ao169 t238.length co169)) (fun _ hk => hk.2) (.slice Ao170 t241.length co170)) (fun _ hk => ⟨hk.1.1.1, hk.1.1.2⟩), by (with_reducible repeat (first | apply Kd.R_alloc | apply Kd.R_drewN | apply Kd.R_drew)); exact Kd.R_mono (Kd.R_far (p := ⟨gb163, 4, none⟩) (Kd.R_far (p := ⟨gb163, 3, none⟩) (Kd.R_far (p := ⟨gb163, 2, none⟩) (Kd.R_far (p := ⟨gb163, 1, none⟩) (Kd.R_far (p := ⟨gb163, 0, none⟩) (Kd.R_far (p := ⟨gb166, 4, none⟩) (Kd.R_far (p := ⟨gb166, 3, none⟩) (Kd.R_far (p := ⟨gb166, 2, none⟩) (Kd.R_far (p := ⟨gb166, 1, none⟩) (Kd.R_far (p := ⟨gb166, 0, none⟩) (Kd.R_types (Kd.R_types HO240.out BK166.out (by decide)) BK163.out (by decide)) (fun _ hk => hk.1.2) (.slice Ao165 t229.length co165)) (fun _ hk => hk.1.2) (.slice Ao167 t232.length co167)) (fun _ hk => hk.1.2) (.slice Ao168 t235.length co168)) (fun _ hk => hk.1.2) (.slice Ao169 t238.length co169)) (fun _ hk => hk.1.2) (.slice Ao170 t241.length co170)) (fun _ hk => hk.2) (.slice Ao165 t229.length co165)) (fun _ hk => hk.2) (.slice Ao167 t232.length co167)) (fun _ hk => hk.2) (.slice Ao168 t235.length co168)) (fun _ hk => hk.2) (.slice Ao169 t238.length co169)) (fun _ hk => hk.2) (.slice Ao170 t241.length co170)) (fun _ hk => hk.1.1), by (with_reducible repeat (first | apply Kd.R_alloc | apply Kd.R_drewN | apply Kd.R_drew)); exact Kd.R_mono (Kd.R_far (p := ⟨gb163, 4, none⟩) (Kd.R_far (p := ⟨gb163, 3, none⟩) (Kd.R_far (p := ⟨gb163, 2, none⟩) (Kd.R_far (p := ⟨gb163, 1, none⟩) (Kd.R_far (p := ⟨gb163, 0, none⟩) (Kd.R_far (p := ⟨gb166, 4, none⟩) (Kd.R_far (p := ⟨gb166, 3, none⟩) (Kd.R_far (p := ⟨gb166, 2, none⟩) (Kd.R_far (p := ⟨gb166, 1, none⟩) (Kd.R_far (p := ⟨gb166, 0, none⟩) (Kd.R_types (Kd.R_types HO243.out BK166.out (by decide)) BK163.out (by decide)) (fun _ hk => hk.1.2) (.slice Ao165 t229.length co165)) (fun _ hk => hk.1.2) (.slice Ao167 t232.length co167)) (fun _ hk => hk.1.2) (.slice Ao168 t235.length co168)) (fun _ hk => hk.1.2) (.slice Ao169 t238.length co169)) (fun _ hk => hk.1.2) (.slice Ao170 t241.length co170)) (fun _ hk => hk.2) (.slice Ao165 t229.length co165)) (fun _ hk => hk.2) (.slice Ao167 t232.length co167)) (fun _ hk => hk.2) (.slice Ao168 t235.length co168)) (fun _ hk => hk.2) (.slice Ao169 t238.length co169)) (fun _ hk => hk.2) (.slice Ao170 t241.length co170)) (fun _ hk => ⟨hk.1.1.1, hk.1.1.2⟩), by repeat (first | (with_reducible first | exact HB.out | apply below_alloc | apply pw_below_drewN | apply below_drew1 | refine below_set ?_ GE162.out | refine below_set ?_ GE163.out | refine below_set ?_ GE166.out) | exact HB.out)⟩
              ·rw [if_neg c105] at H
               exact absurd H (by simp)
             ·rw [if_neg c102] at H
              exact absurd H (by simp)
            ·rw [if_neg c99] at H
             exact absurd H (by simp)
          ·rw [if_neg c17] at H
           exact absurd H (by simp)
         ·rw [if_neg c16] at H
          exact absurd H (by simp)
        ·rw [if_neg c15] at H
         exact absurd H (by simp)
       ·rw [if_neg c14] at H
        exact absurd H (by simp)
      ·rw [if_neg c13] at H
       exact absurd H (by simp)
     ·rw [if_neg c11] at H
      exact absurd H (by simp)
    ·rw [if_neg c10] at H
     exact absurd H (by simp)
   ·rw [if_neg c8] at H
    exact absurd H (by simp)
  ·rw [if_neg c7] at H
   exact absurd H (by simp)
 ·rw [if_neg c6] at H
  exact absurd H (by simp)
end Go.Proofs.Ytjhgknagmiekeaa.K
