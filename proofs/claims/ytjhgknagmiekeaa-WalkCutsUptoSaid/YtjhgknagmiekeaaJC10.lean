/- joined: K27t -/
import Derived.Test.YtjhgknagmiekeaaJC7
-- Written by a program of this session (wip/tools/printfam.py) out of the translation; hand-proved contracts set in. Lean checks it.
namespace Go.Proofs.Ytjhgknagmiekeaa.K
open Go.RowKit Go.Proofs.YtjhgknagmiekeaaW.PrintWords Go.Proofs.YtjhgknagmiekeaaW.PrintLast Go.Proofs.YtjhgknagmiekeaaW.PrintMore
attribute [local go_sem] max2_int min2_int max_two min_two max_three min_three max_four min_four   -- for this text's walks alone
set_option linter.unusedVariables false
set_option linter.unusedSimpArgs false
set_option maxHeartbeats 8000000 in
set_option maxRecDepth 100000 in
theorem musterref03_Insert.calls_t (k : Nat) (A0_0 : Option Addr) (c0_0 : Nat) (l0_0 : List ByteArray) (A0_1 : Option Addr) (c0_1 : Nat) (l0_1 : List Int) (A0_2 : Option Addr) (c0_2 : Nat) (l0_2 : List Int) (A0_3 : Option Addr) (c0_3 : Nat) (l0_3 : List ByteArray) (A0_4 : Option Addr) (c0_4 : Nat) (l0_4 : List Int) (a1 : ByteArray) (a2 : Int) (a3 : Int) (r1 : List ByteArray) (r2 : List Int) (r3 : List Int) (r4 : List ByteArray) (r5 : List Int) (r6 : Int) (r7 : Bool) (r8 : Int) (w : World) (hr0_0 : Kd.C Kd.string w A0_0 l0_0.length l0_0) (hc0_0 : l0_0.length ≤ c0_0) (hr0_1 : Kd.C (Kd.int .i64) w A0_1 l0_1.length l0_1) (hc0_1 : l0_1.length ≤ c0_1) (hr0_2 : Kd.C (Kd.int .i64) w A0_2 l0_2.length l0_2) (hc0_2 : l0_2.length ≤ c0_2) (hr0_3 : Kd.C Kd.string w A0_3 l0_3.length l0_3) (hc0_3 : l0_3.length ≤ c0_3) (hr0_4 : Kd.C (Kd.int .i64) w A0_4 l0_4.length l0_4) (hc0_4 : l0_4.length ≤ c0_4) (h : musterref03_Insert.f k l0_0 l0_1 l0_2 l0_3 l0_4 a1 a2 a3 = some (r1, r2, r3, r4, r5, r6, r7, r8)) (hcase : ∀ x y, musterref03_Find.f k l0_0 a1 = some (x, y) → y = true) :
  Calls Try.prog 66 #[.agg #[.slice A0_0 l0_0.length c0_0, .slice A0_1 l0_1.length c0_1, .slice A0_2 l0_2.length c0_2, .slice A0_3 l0_3.length c0_3, .slice A0_4 l0_4.length c0_4], .string a1, .int .i64 a2, .int .i64 a3] w fun e w' => ∃ v0_ v1_ v2_ v3_ v4_ : Value, e = .returned (.tuple #[.agg #[v0_, v1_, v2_, v3_, v4_], .int .i64 r6, .bool r7, .int .i64 r8]) ∧ Kd.R Kd.string 9 w' w.heap.size (fun k_ => some k_ ≠ (v3_ : Value).ownBlock) v0_ r1 ∧ Kd.R (Kd.int .i64) 3 w' w.heap.size (fun k_ => some k_ ≠ (v2_ : Value).ownBlock ∧ some k_ ≠ (v4_ : Value).ownBlock) v1_ r2 ∧ Kd.R (Kd.int .i64) 3 w' w.heap.size (fun k_ => some k_ ≠ (v1_ : Value).ownBlock ∧ some k_ ≠ (v4_ : Value).ownBlock) v2_ r3 ∧ Kd.R Kd.string 9 w' w.heap.size (fun k_ => some k_ ≠ (v0_ : Value).ownBlock) v3_ r4 ∧ Kd.R (Kd.int .i64) 3 w' w.heap.size (fun k_ => some k_ ≠ (v1_ : Value).ownBlock ∧ some k_ ≠ (v2_ : Value).ownBlock) v4_ r5 ∧ Below w.heap.size w w' := by
 have hu28 := Try.underlying28
 have HR0_0 := Aside0.mk hr0_0
 have HC0_0 := Aside0.mk hc0_0
 clear hr0_0 hc0_0
 have HR0_1 := Aside0.mk hr0_1
 have HC0_1 := Aside0.mk hc0_1
 clear hr0_1 hc0_1
 have HR0_2 := Aside0.mk hr0_2
 have HC0_2 := Aside0.mk hc0_2
 clear hr0_2 hc0_2
 have HR0_3 := Aside0.mk hr0_3
 have HC0_3 := Aside0.mk hc0_3
 clear hr0_3 hc0_3
 have HR0_4 := Aside0.mk hr0_4
 have HC0_4 := Aside0.mk hc0_4
 clear hr0_4 hc0_4
 have HB := Aside0.mk (Below.refl w.heap.size w)
 have H : ((musterref03_Find.f k l0_0 a1).bind fun bt164 => (if 0 ≤ bt164.1 then (if bt164.1 ≤ (l0_0.length : Int) then (if ([] : List ByteArray).length + (l0_0.take (bt164.1 : Int).toNat).length < 8796093022208 then ((some (([] : List ByteArray) ++ (l0_0.take (bt164.1 : Int).toNat) : List ByteArray)).bind fun y168 => (if bt164.1 ≤ (l0_1.length : Int) then (if ([] : List Int).length + (l0_1.take (bt164.1 : Int).toNat).length < 17592186044416 then ((some (([] : List Int) ++ (l0_1.take (bt164.1 : Int).toNat) : List Int)).bind fun y172 => (if bt164.1 ≤ (l0_2.length : Int) then (if ([] : List Int).length + (l0_2.take (bt164.1 : Int).toNat).length < 17592186044416 then ((some (([] : List Int) ++ (l0_2.take (bt164.1 : Int).toNat) : List Int)).bind fun y176 => (if y168.length < 8796093022208 then ((some (y168 ++ [a1] : List ByteArray)).bind fun y179 => (if y172.length < 17592186044416 then ((some (y172 ++ [a2] : List Int)).bind fun y182 => (if y176.length < 17592186044416 then ((some (y176 ++ [a3] : List Int)).bind fun y185 => (if bt164.2 = true then (if bt164.1 < (l0_1.length : Int) then (if 0 ≤ (wrap64 (bt164.1 + 1)) then (if (wrap64 (bt164.1 + 1)) ≤ (l0_0.length : Int) then (if y179.length + (l0_0.drop ((wrap64 (bt164.1 + 1)) : Int).toNat).length < 8796093022208 then (if (wrap64 (bt164.1 + 1)) ≤ (l0_1.length : Int) then (if y182.length + (l0_1.drop ((wrap64 (bt164.1 + 1)) : Int).toNat).length < 17592186044416 then (if (wrap64 (bt164.1 + 1)) ≤ (l0_2.length : Int) then (if y185.length + (l0_2.drop ((wrap64 (bt164.1 + 1)) : Int).toNat).length < 17592186044416 then ((musterref03_remade.f k l0_0 l0_1 l0_2 l0_3 l0_4 (y179 ++ (l0_0.drop ((wrap64 (bt164.1 + 1)) : Int).toNat)) (y182 ++ (l0_1.drop ((wrap64 (bt164.1 + 1)) : Int).toNat)) (y185 ++ (l0_2.drop ((wrap64 (bt164.1 + 1)) : Int).toNat)) ([] : List ByteArray) ([] : List Int) a1 (wrap64 (a3 + 1))).bind fun bt201 => (some (bt201.1, bt201.2.1, bt201.2.2.1, bt201.2.2.2.1, bt201.2.2.2.2.1, rd l0_1 bt164.1, bt164.2, bt201.2.2.2.2.2))) else (none)) else (none)) else (none)) else (none)) else (none)) else (none)) else (none)) else (none)) else (if y179.length + (l0_0.drop (bt164.1 : Int).toNat).length < 8796093022208 then (if y182.length + (l0_1.drop (bt164.1 : Int).toNat).length < 17592186044416 then (if y185.length + (l0_2.drop (bt164.1 : Int).toNat).length < 17592186044416 then ((musterref03_remade.f k l0_0 l0_1 l0_2 l0_3 l0_4 (y179 ++ (l0_0.drop (bt164.1 : Int).toNat)) (y182 ++ (l0_1.drop (bt164.1 : Int).toNat)) (y185 ++ (l0_2.drop (bt164.1 : Int).toNat)) ([] : List ByteArray) ([] : List Int) a1 (wrap64 (a3 + 1))).bind fun bt229 => (some (bt229.1, bt229.2.1, bt229.2.2.1, bt229.2.2.2.1, bt229.2.2.2.2.1, 0, bt164.2, bt229.2.2.2.2.2))) else (none)) else (none)) else (none)))) else (none))) else (none))) else (none))) else (none)) else (none))) else (none)) else (none))) else (none)) else (none)) else (none))) = some (r1, r2, r3, r4, r5, r6, r7, r8) := h
 clear h
 replace H := Option.bind_eq_some_iff.mp H
 obtain ⟨⟨t164, t165⟩, A50, H⟩ := H
 have HCASE := Aside0.mk (hcase _ _ A50)
 clear hcase
 replace H : (if 0 ≤ t164 then (if t164 ≤ (l0_0.length : Int) then (if ([] : List ByteArray).length + (l0_0.take (t164 : Int).toNat).length < 8796093022208 then ((some (([] : List ByteArray) ++ (l0_0.take (t164 : Int).toNat) : List ByteArray)).bind fun y168 => (if t164 ≤ (l0_1.length : Int) then (if ([] : List Int).length + (l0_1.take (t164 : Int).toNat).length < 17592186044416 then ((some (([] : List Int) ++ (l0_1.take (t164 : Int).toNat) : List Int)).bind fun y172 => (if t164 ≤ (l0_2.length : Int) then (if ([] : List Int).length + (l0_2.take (t164 : Int).toNat).length < 17592186044416 then ((some (([] : List Int) ++ (l0_2.take (t164 : Int).toNat) : List Int)).bind fun y176 => (if y168.length < 8796093022208 then ((some (y168 ++ [a1] : List ByteArray)).bind fun y179 => (if y172.length < 17592186044416 then ((some (y172 ++ [a2] : List Int)).bind fun y182 => (if y176.length < 17592186044416 then ((some (y176 ++ [a3] : List Int)).bind fun y185 => (if t165 = true then (if t164 < (l0_1.length : Int) then (if 0 ≤ (wrap64 (t164 + 1)) then (if (wrap64 (t164 + 1)) ≤ (l0_0.length : Int) then (if y179.length + (l0_0.drop ((wrap64 (t164 + 1)) : Int).toNat).length < 8796093022208 then (if (wrap64 (t164 + 1)) ≤ (l0_1.length : Int) then (if y182.length + (l0_1.drop ((wrap64 (t164 + 1)) : Int).toNat).length < 17592186044416 then (if (wrap64 (t164 + 1)) ≤ (l0_2.length : Int) then (if y185.length + (l0_2.drop ((wrap64 (t164 + 1)) : Int).toNat).length < 17592186044416 then ((musterref03_remade.f k l0_0 l0_1 l0_2 l0_3 l0_4 (y179 ++ (l0_0.drop ((wrap64 (t164 + 1)) : Int).toNat)) (y182 ++ (l0_1.drop ((wrap64 (t164 + 1)) : Int).toNat)) (y185 ++ (l0_2.drop ((wrap64 (t164 + 1)) : Int).toNat)) ([] : List ByteArray) ([] : List Int) a1 (wrap64 (a3 + 1))).bind fun bt201 => (some (bt201.1, bt201.2.1, bt201.2.2.1, bt201.2.2.2.1, bt201.2.2.2.2.1, rd l0_1 t164, t165, bt201.2.2.2.2.2))) else (none)) else (none)) else (none)) else (none)) else (none)) else (none)) else (none)) else (none)) else (if y179.length + (l0_0.drop (t164 : Int).toNat).length < 8796093022208 then (if y182.length + (l0_1.drop (t164 : Int).toNat).length < 17592186044416 then (if y185.length + (l0_2.drop (t164 : Int).toNat).length < 17592186044416 then ((musterref03_remade.f k l0_0 l0_1 l0_2 l0_3 l0_4 (y179 ++ (l0_0.drop (t164 : Int).toNat)) (y182 ++ (l0_1.drop (t164 : Int).toNat)) (y185 ++ (l0_2.drop (t164 : Int).toNat)) ([] : List ByteArray) ([] : List Int) a1 (wrap64 (a3 + 1))).bind fun bt229 => (some (bt229.1, bt229.2.1, bt229.2.2.1, bt229.2.2.2.1, bt229.2.2.2.2.1, 0, t165, bt229.2.2.2.2.2))) else (none)) else (none)) else (none)))) else (none))) else (none))) else (none))) else (none)) else (none))) else (none)) else (none))) else (none)) else (none)) else (none)) = some (r1, r2, r3, r4, r5, r6, r7, r8) := H
 have A5 := Aside0.mk A50
 clear A50
 by_cases c6 : 0 ≤ t164
 ·rw [if_pos c6] at H
  have c6b0 := eq_true c6
  have c6b1 : decide (0 ≤ t164) = true := decide_eq_true c6
  clear c6
  by_cases c7 : t164 ≤ (l0_0.length : Int)
  ·rw [if_pos c7] at H
   have c7b0 := eq_true c7
   have c7b1 : decide (t164 ≤ (l0_0.length : Int)) = true := decide_eq_true c7
   clear c7
   by_cases c8 : ([] : List ByteArray).length + (l0_0.take (t164 : Int).toNat).length < 8796093022208
   ·rw [if_pos c8] at H
    have LMc8 := Aside0.mk c8
    clear c8
    obtain ⟨y168, hy168⟩ : ∃ y_ : List ByteArray, y_ = (([] : List ByteArray) ++ (l0_0.take (t164 : Int).toNat)) := ⟨_, rfl⟩
    replace H : (if t164 ≤ (l0_1.length : Int) then (if ([] : List Int).length + (l0_1.take (t164 : Int).toNat).length < 17592186044416 then ((some (([] : List Int) ++ (l0_1.take (t164 : Int).toNat) : List Int)).bind fun y172 => (if t164 ≤ (l0_2.length : Int) then (if ([] : List Int).length + (l0_2.take (t164 : Int).toNat).length < 17592186044416 then ((some (([] : List Int) ++ (l0_2.take (t164 : Int).toNat) : List Int)).bind fun y176 => (if y168.length < 8796093022208 then ((some (y168 ++ [a1] : List ByteArray)).bind fun y179 => (if y172.length < 17592186044416 then ((some (y172 ++ [a2] : List Int)).bind fun y182 => (if y176.length < 17592186044416 then ((some (y176 ++ [a3] : List Int)).bind fun y185 => (if t165 = true then (if t164 < (l0_1.length : Int) then (if 0 ≤ (wrap64 (t164 + 1)) then (if (wrap64 (t164 + 1)) ≤ (l0_0.length : Int) then (if y179.length + (l0_0.drop ((wrap64 (t164 + 1)) : Int).toNat).length < 8796093022208 then (if (wrap64 (t164 + 1)) ≤ (l0_1.length : Int) then (if y182.length + (l0_1.drop ((wrap64 (t164 + 1)) : Int).toNat).length < 17592186044416 then (if (wrap64 (t164 + 1)) ≤ (l0_2.length : Int) then (if y185.length + (l0_2.drop ((wrap64 (t164 + 1)) : Int).toNat).length < 17592186044416 then ((musterref03_remade.f k l0_0 l0_1 l0_2 l0_3 l0_4 (y179 ++ (l0_0.drop ((wrap64 (t164 + 1)) : Int).toNat)) (y182 ++ (l0_1.drop ((wrap64 (t164 + 1)) : Int).toNat)) (y185 ++ (l0_2.drop ((wrap64 (t164 + 1)) : Int).toNat)) ([] : List ByteArray) ([] : List Int) a1 (wrap64 (a3 + 1))).bind fun bt201 => (some (bt201.1, bt201.2.1, bt201.2.2.1, bt201.2.2.2.1, bt201.2.2.2.2.1, rd l0_1 t164, t165, bt201.2.2.2.2.2))) else (none)) else (none)) else (none)) else (none)) else (none)) else (none)) else (none)) else (none)) else (if y179.length + (l0_0.drop (t164 : Int).toNat).length < 8796093022208 then (if y182.length + (l0_1.drop (t164 : Int).toNat).length < 17592186044416 then (if y185.length + (l0_2.drop (t164 : Int).toNat).length < 17592186044416 then ((musterref03_remade.f k l0_0 l0_1 l0_2 l0_3 l0_4 (y179 ++ (l0_0.drop (t164 : Int).toNat)) (y182 ++ (l0_1.drop (t164 : Int).toNat)) (y185 ++ (l0_2.drop (t164 : Int).toNat)) ([] : List ByteArray) ([] : List Int) a1 (wrap64 (a3 + 1))).bind fun bt229 => (some (bt229.1, bt229.2.1, bt229.2.2.1, bt229.2.2.2.1, bt229.2.2.2.2.1, 0, t165, bt229.2.2.2.2.2))) else (none)) else (none)) else (none)))) else (none))) else (none))) else (none))) else (none)) else (none))) else (none)) else (none)) = some (r1, r2, r3, r4, r5, r6, r7, r8) := by first | (rw [hy168]; with_reducible exact H) | (have H2_ := (Option.bind_some _ _).symm.trans H; rw [hy168]; with_reducible exact H2_) | (have H2_ := (Option.bind_some _ _).symm.trans H; with_reducible exact H2_) | with_reducible exact H | (rw [hy168]; exact H) | exact H
    have Ny168 := Aside0.mk hy168
    clear hy168
    have c9b0 := eq_true (of_decide_eq_true (by first | (with_reducible assumption) | assumption) : 0 ≤ t164)
    by_cases c10 : t164 ≤ (l0_1.length : Int)
    ·rw [if_pos c10] at H
     have c10b0 := eq_true c10
     have c10b1 : decide (t164 ≤ (l0_1.length : Int)) = true := decide_eq_true c10
     clear c10
     by_cases c11 : ([] : List Int).length + (l0_1.take (t164 : Int).toNat).length < 17592186044416
     ·rw [if_pos c11] at H
      have LMc11 := Aside0.mk c11
      clear c11
      obtain ⟨y172, hy172⟩ : ∃ y_ : List Int, y_ = (([] : List Int) ++ (l0_1.take (t164 : Int).toNat)) := ⟨_, rfl⟩
      replace H : (if t164 ≤ (l0_2.length : Int) then (if ([] : List Int).length + (l0_2.take (t164 : Int).toNat).length < 17592186044416 then ((some (([] : List Int) ++ (l0_2.take (t164 : Int).toNat) : List Int)).bind fun y176 => (if y168.length < 8796093022208 then ((some (y168 ++ [a1] : List ByteArray)).bind fun y179 => (if y172.length < 17592186044416 then ((some (y172 ++ [a2] : List Int)).bind fun y182 => (if y176.length < 17592186044416 then ((some (y176 ++ [a3] : List Int)).bind fun y185 => (if t165 = true then (if t164 < (l0_1.length : Int) then (if 0 ≤ (wrap64 (t164 + 1)) then (if (wrap64 (t164 + 1)) ≤ (l0_0.length : Int) then (if y179.length + (l0_0.drop ((wrap64 (t164 + 1)) : Int).toNat).length < 8796093022208 then (if (wrap64 (t164 + 1)) ≤ (l0_1.length : Int) then (if y182.length + (l0_1.drop ((wrap64 (t164 + 1)) : Int).toNat).length < 17592186044416 then (if (wrap64 (t164 + 1)) ≤ (l0_2.length : Int) then (if y185.length + (l0_2.drop ((wrap64 (t164 + 1)) : Int).toNat).length < 17592186044416 then ((musterref03_remade.f k l0_0 l0_1 l0_2 l0_3 l0_4 (y179 ++ (l0_0.drop ((wrap64 (t164 + 1)) : Int).toNat)) (y182 ++ (l0_1.drop ((wrap64 (t164 + 1)) : Int).toNat)) (y185 ++ (l0_2.drop ((wrap64 (t164 + 1)) : Int).toNat)) ([] : List ByteArray) ([] : List Int) a1 (wrap64 (a3 + 1))).bind fun bt201 => (some (bt201.1, bt201.2.1, bt201.2.2.1, bt201.2.2.2.1, bt201.2.2.2.2.1, rd l0_1 t164, t165, bt201.2.2.2.2.2))) else (none)) else (none)) else (none)) else (none)) else (none)) else (none)) else (none)) else (none)) else (if y179.length + (l0_0.drop (t164 : Int).toNat).length < 8796093022208 then (if y182.length + (l0_1.drop (t164 : Int).toNat).length < 17592186044416 then (if y185.length + (l0_2.drop (t164 : Int).toNat).length < 17592186044416 then ((musterref03_remade.f k l0_0 l0_1 l0_2 l0_3 l0_4 (y179 ++ (l0_0.drop (t164 : Int).toNat)) (y182 ++ (l0_1.drop (t164 : Int).toNat)) (y185 ++ (l0_2.drop (t164 : Int).toNat)) ([] : List ByteArray) ([] : List Int) a1 (wrap64 (a3 + 1))).bind fun bt229 => (some (bt229.1, bt229.2.1, bt229.2.2.1, bt229.2.2.2.1, bt229.2.2.2.2.1, 0, t165, bt229.2.2.2.2.2))) else (none)) else (none)) else (none)))) else (none))) else (none))) else (none))) else (none)) else (none)) = some (r1, r2, r3, r4, r5, r6, r7, r8) := by first | (rw [hy172]; with_reducible exact H) | (have H2_ := (Option.bind_some _ _).symm.trans H; rw [hy172]; with_reducible exact H2_) | (have H2_ := (Option.bind_some _ _).symm.trans H; with_reducible exact H2_) | with_reducible exact H | (rw [hy172]; exact H) | exact H
      have Ny172 := Aside0.mk hy172
      clear hy172
      have c12b0 := eq_true (of_decide_eq_true (by first | (with_reducible assumption) | assumption) : 0 ≤ t164)
      by_cases c13 : t164 ≤ (l0_2.length : Int)
      ·rw [if_pos c13] at H
       have c13b0 := eq_true c13
       have c13b1 : decide (t164 ≤ (l0_2.length : Int)) = true := decide_eq_true c13
       clear c13
       by_cases c14 : ([] : List Int).length + (l0_2.take (t164 : Int).toNat).length < 17592186044416
       ·rw [if_pos c14] at H
        have LMc14 := Aside0.mk c14
        clear c14
        obtain ⟨y176, hy176⟩ : ∃ y_ : List Int, y_ = (([] : List Int) ++ (l0_2.take (t164 : Int).toNat)) := ⟨_, rfl⟩
        replace H : (if y168.length < 8796093022208 then ((some (y168 ++ [a1] : List ByteArray)).bind fun y179 => (if y172.length < 17592186044416 then ((some (y172 ++ [a2] : List Int)).bind fun y182 => (if y176.length < 17592186044416 then ((some (y176 ++ [a3] : List Int)).bind fun y185 => (if t165 = true then (if t164 < (l0_1.length : Int) then (if 0 ≤ (wrap64 (t164 + 1)) then (if (wrap64 (t164 + 1)) ≤ (l0_0.length : Int) then (if y179.length + (l0_0.drop ((wrap64 (t164 + 1)) : Int).toNat).length < 8796093022208 then (if (wrap64 (t164 + 1)) ≤ (l0_1.length : Int) then (if y182.length + (l0_1.drop ((wrap64 (t164 + 1)) : Int).toNat).length < 17592186044416 then (if (wrap64 (t164 + 1)) ≤ (l0_2.length : Int) then (if y185.length + (l0_2.drop ((wrap64 (t164 + 1)) : Int).toNat).length < 17592186044416 then ((musterref03_remade.f k l0_0 l0_1 l0_2 l0_3 l0_4 (y179 ++ (l0_0.drop ((wrap64 (t164 + 1)) : Int).toNat)) (y182 ++ (l0_1.drop ((wrap64 (t164 + 1)) : Int).toNat)) (y185 ++ (l0_2.drop ((wrap64 (t164 + 1)) : Int).toNat)) ([] : List ByteArray) ([] : List Int) a1 (wrap64 (a3 + 1))).bind fun bt201 => (some (bt201.1, bt201.2.1, bt201.2.2.1, bt201.2.2.2.1, bt201.2.2.2.2.1, rd l0_1 t164, t165, bt201.2.2.2.2.2))) else (none)) else (none)) else (none)) else (none)) else (none)) else (none)) else (none)) else (none)) else (if y179.length + (l0_0.drop (t164 : Int).toNat).length < 8796093022208 then (if y182.length + (l0_1.drop (t164 : Int).toNat).length < 17592186044416 then (if y185.length + (l0_2.drop (t164 : Int).toNat).length < 17592186044416 then ((musterref03_remade.f k l0_0 l0_1 l0_2 l0_3 l0_4 (y179 ++ (l0_0.drop (t164 : Int).toNat)) (y182 ++ (l0_1.drop (t164 : Int).toNat)) (y185 ++ (l0_2.drop (t164 : Int).toNat)) ([] : List ByteArray) ([] : List Int) a1 (wrap64 (a3 + 1))).bind fun bt229 => (some (bt229.1, bt229.2.1, bt229.2.2.1, bt229.2.2.2.1, bt229.2.2.2.2.1, 0, t165, bt229.2.2.2.2.2))) else (none)) else (none)) else (none)))) else (none))) else (none))) else (none)) = some (r1, r2, r3, r4, r5, r6, r7, r8) := by first | (rw [hy176]; with_reducible exact H) | (have H2_ := (Option.bind_some _ _).symm.trans H; rw [hy176]; with_reducible exact H2_) | (have H2_ := (Option.bind_some _ _).symm.trans H; with_reducible exact H2_) | with_reducible exact H | (rw [hy176]; exact H) | exact H
        have Ny176 := Aside0.mk hy176
        clear hy176
        by_cases c15 : y168.length < 8796093022208
        ·rw [if_pos c15] at H
         have LMc15 := Aside0.mk c15
         clear c15
         obtain ⟨y179, hy179⟩ : ∃ y_ : List ByteArray, y_ = (y168 ++ [a1]) := ⟨_, rfl⟩
         replace H : (if y172.length < 17592186044416 then ((some (y172 ++ [a2] : List Int)).bind fun y182 => (if y176.length < 17592186044416 then ((some (y176 ++ [a3] : List Int)).bind fun y185 => (if t165 = true then (if t164 < (l0_1.length : Int) then (if 0 ≤ (wrap64 (t164 + 1)) then (if (wrap64 (t164 + 1)) ≤ (l0_0.length : Int) then (if y179.length + (l0_0.drop ((wrap64 (t164 + 1)) : Int).toNat).length < 8796093022208 then (if (wrap64 (t164 + 1)) ≤ (l0_1.length : Int) then (if y182.length + (l0_1.drop ((wrap64 (t164 + 1)) : Int).toNat).length < 17592186044416 then (if (wrap64 (t164 + 1)) ≤ (l0_2.length : Int) then (if y185.length + (l0_2.drop ((wrap64 (t164 + 1)) : Int).toNat).length < 17592186044416 then ((musterref03_remade.f k l0_0 l0_1 l0_2 l0_3 l0_4 (y179 ++ (l0_0.drop ((wrap64 (t164 + 1)) : Int).toNat)) (y182 ++ (l0_1.drop ((wrap64 (t164 + 1)) : Int).toNat)) (y185 ++ (l0_2.drop ((wrap64 (t164 + 1)) : Int).toNat)) ([] : List ByteArray) ([] : List Int) a1 (wrap64 (a3 + 1))).bind fun bt201 => (some (bt201.1, bt201.2.1, bt201.2.2.1, bt201.2.2.2.1, bt201.2.2.2.2.1, rd l0_1 t164, t165, bt201.2.2.2.2.2))) else (none)) else (none)) else (none)) else (none)) else (none)) else (none)) else (none)) else (none)) else (if y179.length + (l0_0.drop (t164 : Int).toNat).length < 8796093022208 then (if y182.length + (l0_1.drop (t164 : Int).toNat).length < 17592186044416 then (if y185.length + (l0_2.drop (t164 : Int).toNat).length < 17592186044416 then ((musterref03_remade.f k l0_0 l0_1 l0_2 l0_3 l0_4 (y179 ++ (l0_0.drop (t164 : Int).toNat)) (y182 ++ (l0_1.drop (t164 : Int).toNat)) (y185 ++ (l0_2.drop (t164 : Int).toNat)) ([] : List ByteArray) ([] : List Int) a1 (wrap64 (a3 + 1))).bind fun bt229 => (some (bt229.1, bt229.2.1, bt229.2.2.1, bt229.2.2.2.1, bt229.2.2.2.2.1, 0, t165, bt229.2.2.2.2.2))) else (none)) else (none)) else (none)))) else (none))) else (none)) = some (r1, r2, r3, r4, r5, r6, r7, r8) := by first | (rw [hy179]; with_reducible exact H) | (have H2_ := (Option.bind_some _ _).symm.trans H; rw [hy179]; with_reducible exact H2_) | (have H2_ := (Option.bind_some _ _).symm.trans H; with_reducible exact H2_) | with_reducible exact H | (rw [hy179]; exact H) | exact H
         have Ny179 := Aside0.mk hy179
         clear hy179
         by_cases c16 : y172.length < 17592186044416
         ·rw [if_pos c16] at H
          have LMc16 := Aside0.mk c16
          clear c16
          obtain ⟨y182, hy182⟩ : ∃ y_ : List Int, y_ = (y172 ++ [a2]) := ⟨_, rfl⟩
          replace H : (if y176.length < 17592186044416 then ((some (y176 ++ [a3] : List Int)).bind fun y185 => (if t165 = true then (if t164 < (l0_1.length : Int) then (if 0 ≤ (wrap64 (t164 + 1)) then (if (wrap64 (t164 + 1)) ≤ (l0_0.length : Int) then (if y179.length + (l0_0.drop ((wrap64 (t164 + 1)) : Int).toNat).length < 8796093022208 then (if (wrap64 (t164 + 1)) ≤ (l0_1.length : Int) then (if y182.length + (l0_1.drop ((wrap64 (t164 + 1)) : Int).toNat).length < 17592186044416 then (if (wrap64 (t164 + 1)) ≤ (l0_2.length : Int) then (if y185.length + (l0_2.drop ((wrap64 (t164 + 1)) : Int).toNat).length < 17592186044416 then ((musterref03_remade.f k l0_0 l0_1 l0_2 l0_3 l0_4 (y179 ++ (l0_0.drop ((wrap64 (t164 + 1)) : Int).toNat)) (y182 ++ (l0_1.drop ((wrap64 (t164 + 1)) : Int).toNat)) (y185 ++ (l0_2.drop ((wrap64 (t164 + 1)) : Int).toNat)) ([] : List ByteArray) ([] : List Int) a1 (wrap64 (a3 + 1))).bind fun bt201 => (some (bt201.1, bt201.2.1, bt201.2.2.1, bt201.2.2.2.1, bt201.2.2.2.2.1, rd l0_1 t164, t165, bt201.2.2.2.2.2))) else (none)) else (none)) else (none)) else (none)) else (none)) else (none)) else (none)) else (none)) else (if y179.length + (l0_0.drop (t164 : Int).toNat).length < 8796093022208 then (if y182.length + (l0_1.drop (t164 : Int).toNat).length < 17592186044416 then (if y185.length + (l0_2.drop (t164 : Int).toNat).length < 17592186044416 then ((musterref03_remade.f k l0_0 l0_1 l0_2 l0_3 l0_4 (y179 ++ (l0_0.drop (t164 : Int).toNat)) (y182 ++ (l0_1.drop (t164 : Int).toNat)) (y185 ++ (l0_2.drop (t164 : Int).toNat)) ([] : List ByteArray) ([] : List Int) a1 (wrap64 (a3 + 1))).bind fun bt229 => (some (bt229.1, bt229.2.1, bt229.2.2.1, bt229.2.2.2.1, bt229.2.2.2.2.1, 0, t165, bt229.2.2.2.2.2))) else (none)) else (none)) else (none)))) else (none)) = some (r1, r2, r3, r4, r5, r6, r7, r8) := by first | (rw [hy182]; with_reducible exact H) | (have H2_ := (Option.bind_some _ _).symm.trans H; rw [hy182]; with_reducible exact H2_) | (have H2_ := (Option.bind_some _ _).symm.trans H; with_reducible exact H2_) | with_reducible exact H | (rw [hy182]; exact H) | exact H
          have Ny182 := Aside0.mk hy182
          clear hy182
          by_cases c17 : y176.length < 17592186044416
          ·rw [if_pos c17] at H
           have LMc17 := Aside0.mk c17
           clear c17
           obtain ⟨y185, hy185⟩ : ∃ y_ : List Int, y_ = (y176 ++ [a3]) := ⟨_, rfl⟩
           replace H : (if t165 = true then (if t164 < (l0_1.length : Int) then (if 0 ≤ (wrap64 (t164 + 1)) then (if (wrap64 (t164 + 1)) ≤ (l0_0.length : Int) then (if y179.length + (l0_0.drop ((wrap64 (t164 + 1)) : Int).toNat).length < 8796093022208 then (if (wrap64 (t164 + 1)) ≤ (l0_1.length : Int) then (if y182.length + (l0_1.drop ((wrap64 (t164 + 1)) : Int).toNat).length < 17592186044416 then (if (wrap64 (t164 + 1)) ≤ (l0_2.length : Int) then (if y185.length + (l0_2.drop ((wrap64 (t164 + 1)) : Int).toNat).length < 17592186044416 then ((musterref03_remade.f k l0_0 l0_1 l0_2 l0_3 l0_4 (y179 ++ (l0_0.drop ((wrap64 (t164 + 1)) : Int).toNat)) (y182 ++ (l0_1.drop ((wrap64 (t164 + 1)) : Int).toNat)) (y185 ++ (l0_2.drop ((wrap64 (t164 + 1)) : Int).toNat)) ([] : List ByteArray) ([] : List Int) a1 (wrap64 (a3 + 1))).bind fun bt201 => (some (bt201.1, bt201.2.1, bt201.2.2.1, bt201.2.2.2.1, bt201.2.2.2.2.1, rd l0_1 t164, t165, bt201.2.2.2.2.2))) else (none)) else (none)) else (none)) else (none)) else (none)) else (none)) else (none)) else (none)) else (if y179.length + (l0_0.drop (t164 : Int).toNat).length < 8796093022208 then (if y182.length + (l0_1.drop (t164 : Int).toNat).length < 17592186044416 then (if y185.length + (l0_2.drop (t164 : Int).toNat).length < 17592186044416 then ((musterref03_remade.f k l0_0 l0_1 l0_2 l0_3 l0_4 (y179 ++ (l0_0.drop (t164 : Int).toNat)) (y182 ++ (l0_1.drop (t164 : Int).toNat)) (y185 ++ (l0_2.drop (t164 : Int).toNat)) ([] : List ByteArray) ([] : List Int) a1 (wrap64 (a3 + 1))).bind fun bt229 => (some (bt229.1, bt229.2.1, bt229.2.2.1, bt229.2.2.2.1, bt229.2.2.2.2.1, 0, t165, bt229.2.2.2.2.2))) else (none)) else (none)) else (none))) = some (r1, r2, r3, r4, r5, r6, r7, r8) := by first | (rw [hy185]; with_reducible exact H) | (have H2_ := (Option.bind_some _ _).symm.trans H; rw [hy185]; with_reducible exact H2_) | (have H2_ := (Option.bind_some _ _).symm.trans H; with_reducible exact H2_) | with_reducible exact H | (rw [hy185]; exact H) | exact H
           have Ny185 := Aside0.mk hy185
           clear hy185
           by_cases c18 : t165 = true
           ·subst c18
            have H1 : (if t164 < (l0_1.length : Int) then (if 0 ≤ (wrap64 (t164 + 1)) then (if (wrap64 (t164 + 1)) ≤ (l0_0.length : Int) then (if y179.length + (l0_0.drop ((wrap64 (t164 + 1)) : Int).toNat).length < 8796093022208 then (if (wrap64 (t164 + 1)) ≤ (l0_1.length : Int) then (if y182.length + (l0_1.drop ((wrap64 (t164 + 1)) : Int).toNat).length < 17592186044416 then (if (wrap64 (t164 + 1)) ≤ (l0_2.length : Int) then (if y185.length + (l0_2.drop ((wrap64 (t164 + 1)) : Int).toNat).length < 17592186044416 then ((musterref03_remade.f k l0_0 l0_1 l0_2 l0_3 l0_4 (y179 ++ (l0_0.drop ((wrap64 (t164 + 1)) : Int).toNat)) (y182 ++ (l0_1.drop ((wrap64 (t164 + 1)) : Int).toNat)) (y185 ++ (l0_2.drop ((wrap64 (t164 + 1)) : Int).toNat)) ([] : List ByteArray) ([] : List Int) a1 (wrap64 (a3 + 1))).bind fun bt201 => (some (bt201.1, bt201.2.1, bt201.2.2.1, bt201.2.2.2.1, bt201.2.2.2.2.1, rd l0_1 t164, true, bt201.2.2.2.2.2))) else (none)) else (none)) else (none)) else (none)) else (none)) else (none)) else (none)) else (none)) = some (r1, r2, r3, r4, r5, r6, r7, r8) := by rw [if_pos rfl] at H; exact H
            clear H
            have H := H1
            clear H1
            by_cases c19 : t164 < (l0_1.length : Int)
            ·rw [if_pos c19] at H
             have c19b0 : decide (t164 < (l0_1.length : Int)) = true := decide_eq_true c19
             clear c19
             obtain ⟨ji20, hji20⟩ : ∃ j_ : Int, (wrap64 (t164 + 1)) = j_ := ⟨_, rfl⟩
             replace H : (if 0 ≤ (ji20) then (if (ji20) ≤ (l0_0.length : Int) then (if y179.length + (l0_0.drop ((ji20) : Int).toNat).length < 8796093022208 then (if (ji20) ≤ (l0_1.length : Int) then (if y182.length + (l0_1.drop ((ji20) : Int).toNat).length < 17592186044416 then (if (ji20) ≤ (l0_2.length : Int) then (if y185.length + (l0_2.drop ((ji20) : Int).toNat).length < 17592186044416 then ((musterref03_remade.f k l0_0 l0_1 l0_2 l0_3 l0_4 (y179 ++ (l0_0.drop ((ji20) : Int).toNat)) (y182 ++ (l0_1.drop ((ji20) : Int).toNat)) (y185 ++ (l0_2.drop ((ji20) : Int).toNat)) ([] : List ByteArray) ([] : List Int) a1 (wrap64 (a3 + 1))).bind fun bt201 => (some (bt201.1, bt201.2.1, bt201.2.2.1, bt201.2.2.2.1, bt201.2.2.2.2.1, rd l0_1 t164, true, bt201.2.2.2.2.2))) else (none)) else (none)) else (none)) else (none)) else (none)) else (none)) else (none)) = some (r1, r2, r3, r4, r5, r6, r7, r8) := by first | (rw [hji20] at H; exact H) | (simp only [hji20] at H ⊢; exact H)
             (try rw [hji20] at A5)
             have hji20w : (IntKind.i64.wrap (t164 + 1)) = ji20 := (i64_w _).trans hji20
             by_cases c21 : 0 ≤ (ji20)
             ·rw [if_pos c21] at H
              have c21b0 := eq_true c21
              have c21b1 : decide (0 ≤ (ji20)) = true := decide_eq_true c21
              clear c21
              by_cases c22 : (ji20) ≤ (l0_0.length : Int)
              ·rw [if_pos c22] at H
               have c22b0 := eq_true c22
               have c22b1 : decide ((ji20) ≤ (l0_0.length : Int)) = true := decide_eq_true c22
               clear c22
               by_cases c23 : y179.length + (l0_0.drop ((ji20) : Int).toNat).length < 8796093022208
               ·rw [if_pos c23] at H
                have LMc23 := Aside0.mk c23
                clear c23
                obtain ⟨y190, hy190⟩ : ∃ y_ : List ByteArray, y_ = (y179 ++ (l0_0.drop ((ji20) : Int).toNat)) := ⟨_, rfl⟩
                replace H : (if (ji20) ≤ (l0_1.length : Int) then (if y182.length + (l0_1.drop ((ji20) : Int).toNat).length < 17592186044416 then (if (ji20) ≤ (l0_2.length : Int) then (if y185.length + (l0_2.drop ((ji20) : Int).toNat).length < 17592186044416 then ((musterref03_remade.f k l0_0 l0_1 l0_2 l0_3 l0_4 y190 (y182 ++ (l0_1.drop ((ji20) : Int).toNat)) (y185 ++ (l0_2.drop ((ji20) : Int).toNat)) ([] : List ByteArray) ([] : List Int) a1 (wrap64 (a3 + 1))).bind fun bt201 => (some (bt201.1, bt201.2.1, bt201.2.2.1, bt201.2.2.2.1, bt201.2.2.2.2.1, rd l0_1 t164, true, bt201.2.2.2.2.2))) else (none)) else (none)) else (none)) else (none)) = some (r1, r2, r3, r4, r5, r6, r7, r8) := by first | (rw [hy190]; with_reducible exact H) | (have H2_ := (Option.bind_some _ _).symm.trans H; rw [hy190]; with_reducible exact H2_) | (have H2_ := (Option.bind_some _ _).symm.trans H; with_reducible exact H2_) | with_reducible exact H | (rw [hy190]; exact H) | exact H
                have Ny190 := Aside0.mk hy190
                clear hy190
                have c24b0 := eq_true (of_decide_eq_true (by first | (with_reducible assumption) | assumption) : 0 ≤ (ji20))
                by_cases c25 : (ji20) ≤ (l0_1.length : Int)
                ·rw [if_pos c25] at H
                 have c25b0 := eq_true c25
                 have c25b1 : decide ((ji20) ≤ (l0_1.length : Int)) = true := decide_eq_true c25
                 clear c25
                 by_cases c26 : y182.length + (l0_1.drop ((ji20) : Int).toNat).length < 17592186044416
                 ·rw [if_pos c26] at H
                  have LMc26 := Aside0.mk c26
                  clear c26
                  obtain ⟨y194, hy194⟩ : ∃ y_ : List Int, y_ = (y182 ++ (l0_1.drop ((ji20) : Int).toNat)) := ⟨_, rfl⟩
                  replace H : (if (ji20) ≤ (l0_2.length : Int) then (if y185.length + (l0_2.drop ((ji20) : Int).toNat).length < 17592186044416 then ((musterref03_remade.f k l0_0 l0_1 l0_2 l0_3 l0_4 y190 y194 (y185 ++ (l0_2.drop ((ji20) : Int).toNat)) ([] : List ByteArray) ([] : List Int) a1 (wrap64 (a3 + 1))).bind fun bt201 => (some (bt201.1, bt201.2.1, bt201.2.2.1, bt201.2.2.2.1, bt201.2.2.2.2.1, rd l0_1 t164, true, bt201.2.2.2.2.2))) else (none)) else (none)) = some (r1, r2, r3, r4, r5, r6, r7, r8) := by first | (rw [hy194]; with_reducible exact H) | (have H2_ := (Option.bind_some _ _).symm.trans H; rw [hy194]; with_reducible exact H2_) | (have H2_ := (Option.bind_some _ _).symm.trans H; with_reducible exact H2_) | with_reducible exact H | (rw [hy194]; exact H) | exact H
                  have Ny194 := Aside0.mk hy194
                  clear hy194
                  have c27b0 := eq_true (of_decide_eq_true (by first | (with_reducible assumption) | assumption) : 0 ≤ (ji20))
                  by_cases c28 : (ji20) ≤ (l0_2.length : Int)
                  ·rw [if_pos c28] at H
                   have c28b0 := eq_true c28
                   have c28b1 : decide ((ji20) ≤ (l0_2.length : Int)) = true := decide_eq_true c28
                   clear c28
                   by_cases c29 : y185.length + (l0_2.drop ((ji20) : Int).toNat).length < 17592186044416
                   ·rw [if_pos c29] at H
                    have LMc29 := Aside0.mk c29
                    clear c29
                    obtain ⟨y198, hy198⟩ : ∃ y_ : List Int, y_ = (y185 ++ (l0_2.drop ((ji20) : Int).toNat)) := ⟨_, rfl⟩
                    replace H : ((musterref03_remade.f k l0_0 l0_1 l0_2 l0_3 l0_4 y190 y194 y198 ([] : List ByteArray) ([] : List Int) a1 (wrap64 (a3 + 1))).bind fun bt201 => (some (bt201.1, bt201.2.1, bt201.2.2.1, bt201.2.2.2.1, bt201.2.2.2.2.1, rd l0_1 t164, true, bt201.2.2.2.2.2))) = some (r1, r2, r3, r4, r5, r6, r7, r8) := by first | (rw [hy198]; with_reducible exact H) | (have H2_ := (Option.bind_some _ _).symm.trans H; rw [hy198]; with_reducible exact H2_) | (have H2_ := (Option.bind_some _ _).symm.trans H; with_reducible exact H2_) | with_reducible exact H | (rw [hy198]; exact H) | exact H
                    have Ny198 := Aside0.mk hy198
                    clear hy198
                    replace H := Option.bind_eq_some_iff.mp H
                    obtain ⟨⟨t201, t204, t207, t210, t213, t216⟩, A300, H⟩ := H
                    replace H : (some (t201, t204, t207, t210, t213, rd l0_1 t164, true, t216)) = some (r1, r2, r3, r4, r5, r6, r7, r8) := H
                    have A30 := Aside0.mk A300
                    clear A300
                    simp only [Option.some.injEq, Prod.mk.injEq] at H
                    obtain ⟨rfl, rfl, rfl, rfl, rfl, rfl, rfl, rfl⟩ := H
                    go_enter Try.func66, Try.ntmps66
                    try go_wp2_with (first | ((with_reducible refine gate_dst (N := 4) rfl ?_); refine box_event ?hg (N := 4) ?hd (cs := #[.slice A0_0 l0_0.length c0_0, .slice A0_1 l0_1.length c0_1, .slice A0_2 l0_2.length c0_2, .slice A0_3 l0_3.length c0_3, .slice A0_4 l0_4.length c0_4]) (t := 28) ?hr ?_; (case hd => rfl); (case hg => rfl); (case hr => first | (go_simp; done) | (go_simp; rfl)); intro gb162 hg w31 hbox hb; have n0_ := Aside0.mk (below_step (by repeat (first | (with_reducible first | exact HB.out | apply below_alloc | apply pw_below_drewN | apply below_drew1) | exact HB.out)) hb); have n1_ := Aside0.mk (hbox); have n2_ := Aside0.mk ((by rw [hg]; exact (below_size (by repeat (first | (with_reducible first | exact HB.out | apply below_alloc | apply pw_below_drewN | apply below_drew1) | exact HB.out))) : w.heap.size ≤ gb162)); have n3_ := Aside0.mk ((by rw [hg]; exact (below_size (by repeat (first | (with_reducible first | exact HB.out | apply below_alloc | apply pw_below_drewN | apply below_drew1) | exact HB.out))) : w.heap.size ≤ gb162)); clear HB; have HB := n0_; have BK162 := n1_; have GW162 := n2_; have GE162 := n3_; clear n0_ n1_ n2_ n3_; clear hb hbox hg) | ((with_reducible refine gate_dst (N := 8) rfl ?_); refine box_event ?hg (N := 8) ?hd (cs := #[.slice none 0 0, .slice none 0 0, .slice none 0 0, .slice none 0 0, .slice none 0 0]) (t := 28) ?hr ?_; (case hd => rfl); (case hg => rfl); (case hr => first | (go_simp; done) | (go_simp; rfl)); intro gb163 hg w32 hbox hb; have n0_ := Aside0.mk (blk_below (g := gb162) (o := .cells #[.slice A0_0 l0_0.length c0_0, .slice A0_1 l0_1.length c0_1, .slice A0_2 l0_2.length c0_2, .slice A0_3 l0_3.length c0_3, .slice A0_4 l0_4.length c0_4] 28 (0, 0)) (by (with_reducible repeat (first | refine blk_drewN ?_ _ | refine blk_drew ?_ | refine blk_alloc ?_ _)); exact BK162.out) hb); have n1_ := Aside0.mk (below_step (by repeat (first | (with_reducible first | exact HB.out | apply below_alloc | apply pw_below_drewN | apply below_drew1 | refine below_set ?_ GE162.out) | exact HB.out)) hb); have n2_ := Aside0.mk (hbox); have n3_ := Aside0.mk ((by rw [hg]; exact (below_size (by repeat (first | (with_reducible first | exact HB.out | apply below_alloc | apply pw_below_drewN | apply below_drew1 | refine below_set ?_ GE162.out) | exact HB.out))) : w.heap.size ≤ gb163)); have n4_ := Aside0.mk ((by rw [hg]; exact (below_size (by repeat (first | (with_reducible first | exact HB.out | apply below_alloc | apply pw_below_drewN | apply below_drew1 | refine below_set ?_ GE162.out) | exact HB.out))) : w.heap.size ≤ gb163)); have n5_ := Aside0.mk ((by rw [hg]; exact Nat.ne_of_lt (blk_lt (g := gb162) (o := .cells #[.slice A0_0 l0_0.length c0_0, .slice A0_1 l0_1.length c0_1, .slice A0_2 l0_2.length c0_2, .slice A0_3 l0_3.length c0_3, .slice A0_4 l0_4.length c0_4] 28 (0, 0)) (by (with_reducible repeat (first | refine blk_drewN ?_ _ | refine blk_drew ?_ | refine blk_alloc ?_ _)); exact BK162.out)) : gb162 ≠ gb163)); have n6_ := Aside0.mk ((by rw [hg]; exact Nat.ne_of_gt (blk_lt (g := gb162) (o := .cells #[.slice A0_0 l0_0.length c0_0, .slice A0_1 l0_1.length c0_1, .slice A0_2 l0_2.length c0_2, .slice A0_3 l0_3.length c0_3, .slice A0_4 l0_4.length c0_4] 28 (0, 0)) (by (with_reducible repeat (first | refine blk_drewN ?_ _ | refine blk_drew ?_ | refine blk_alloc ?_ _)); exact BK162.out)) : gb163 ≠ gb162)); clear BK162; clear HB; have BK162 := n0_; have HB := n1_; have BK163 := n2_; have GW163 := n3_; have GE163 := n4_; have NB162_163 := n5_; have NB163_162 := n6_; clear n0_ n1_ n2_ n3_ n4_ n5_ n6_; clear hb hbox hg; have hnb33 := NB162_163.out; have hnc33 := NB163_162.out; have hcz34_0 : w32.cell? ⟨gb162, 0, none⟩ = some (.slice A0_0 l0_0.length c0_0) := (blk_cell BK162.out 0).trans rfl; have hcz34_1 : w32.cell? ⟨gb162, 1, none⟩ = some (.slice A0_1 l0_1.length c0_1) := (blk_cell BK162.out 1).trans rfl; have hcz34_2 : w32.cell? ⟨gb162, 2, none⟩ = some (.slice A0_2 l0_2.length c0_2) := (blk_cell BK162.out 2).trans rfl; have hcz34_3 : w32.cell? ⟨gb162, 3, none⟩ = some (.slice A0_3 l0_3.length c0_3) := (blk_cell BK162.out 3).trans rfl; have hcz34_4 : w32.cell? ⟨gb162, 4, none⟩ = some (.slice A0_4 l0_4.length c0_4) := (blk_cell BK162.out 4).trans rfl; have hfz34_0 := blk_frozen BK162.out 0; have hfz34_1 := blk_frozen BK162.out 1; have hfz34_2 := blk_frozen BK162.out 2; have hfz34_3 := blk_frozen BK162.out 3; have hfz34_4 := blk_frozen BK162.out 4) | ((with_reducible refine gate_callee (f := 91) rfl ?_); refine goesL_ (some 21) rfl rfl Try.func91 (by kernel_rfl) rfl #[.slice A0_0 l0_0.length c0_0, .string a1] rfl (by (try simp only [List.map_toArray, List.map_cons, List.map_nil]); first | done | rfl | (simp only [List.length_drop, List.length_take]; rfl)) ?_; (with_reducible refine (musterref03_Find.calls k _ _ l0_0 a1 t164 true _ ?side1 ?side2 A5.out).mono ?_); (case side1 => repeat (first | exact (Kd.C_below HR0_0.out HB.out) | (with_reducible refine Kd.C_alloc ?_ _) | (with_reducible refine Kd.C_drewN ?_ _) | (with_reducible refine Kd.C_drew ?_))); (case side2 => exact HC0_0.out); rintro e w' ⟨rfl, ⟨nd, rfl⟩⟩; refine ⟨_, rfl, ?_⟩; (try (rw [drewN_self w32]; generalize hq_ : World.drewN w32 _ = w32; have n0_ : Aside0 (w32.heap[gb162]? = some (.cells #[.slice A0_0 l0_0.length c0_0, .slice A0_1 l0_1.length c0_1, .slice A0_2 l0_2.length c0_2, .slice A0_3 l0_3.length c0_3, .slice A0_4 l0_4.length c0_4] 28 (0, 0))) := ⟨by rw [← hq_]; exact (by (with_reducible repeat (first | refine blk_drewN ?_ _ | refine blk_drew ?_ | refine blk_alloc ?_ _)); exact BK162.out)⟩; have n1_ : Aside0 (w32.heap[gb163]? = some (.cells #[.slice none 0 0, .slice none 0 0, .slice none 0 0, .slice none 0 0, .slice none 0 0] 28 (0, 0))) := ⟨by rw [← hq_]; exact (by (with_reducible repeat (first | refine blk_drewN ?_ _ | refine blk_drew ?_ | refine blk_alloc ?_ _)); exact BK163.out)⟩; have n2_ : Aside0 (Below w.heap.size w w32) := ⟨by rw [← hq_]; exact (by repeat (first | (with_reducible first | exact HB.out | apply below_alloc | apply pw_below_drewN | apply below_drew1 | refine below_set ?_ GE162.out | refine below_set ?_ GE163.out) | exact HB.out))⟩; clear BK162 BK163 HB hq_; have BK162 := n0_; have BK163 := n1_; have HB := n2_; clear n0_ n1_ n2_))) | ((with_reducible refine gate_dst (N := 14) rfl ?_); refine box_event ?hg (N := 14) ?hd (cs := #[.slice none 0 0, .slice none 0 0, .slice none 0 0, .slice none 0 0, .slice none 0 0]) (t := 28) ?hr ?_; (case hd => rfl); (case hg => rfl); (case hr => first | (go_simp; done) | (go_simp; rfl)); intro gb166 hg w35 hbox hb; have n0_ := Aside0.mk (blk_below (g := gb162) (o := .cells #[.slice A0_0 l0_0.length c0_0, .slice A0_1 l0_1.length c0_1, .slice A0_2 l0_2.length c0_2, .slice A0_3 l0_3.length c0_3, .slice A0_4 l0_4.length c0_4] 28 (0, 0)) (by (with_reducible repeat (first | refine blk_drewN ?_ _ | refine blk_drew ?_ | refine blk_alloc ?_ _)); exact BK162.out) hb); have n1_ := Aside0.mk (blk_below (g := gb163) (o := .cells #[.slice none 0 0, .slice none 0 0, .slice none 0 0, .slice none 0 0, .slice none 0 0] 28 (0, 0)) (by (with_reducible repeat (first | refine blk_drewN ?_ _ | refine blk_drew ?_ | refine blk_alloc ?_ _)); exact BK163.out) hb); have n2_ := Aside0.mk (below_step (by repeat (first | (with_reducible first | exact HB.out | apply below_alloc | apply pw_below_drewN | apply below_drew1 | refine below_set ?_ GE162.out | refine below_set ?_ GE163.out) | exact HB.out)) hb); have n3_ := Aside0.mk (hbox); have n4_ := Aside0.mk ((by rw [hg]; exact (below_size (by repeat (first | (with_reducible first | exact HB.out | apply below_alloc | apply pw_below_drewN | apply below_drew1 | refine below_set ?_ GE162.out | refine below_set ?_ GE163.out) | exact HB.out))) : w.heap.size ≤ gb166)); have n5_ := Aside0.mk ((by rw [hg]; exact (below_size (by repeat (first | (with_reducible first | exact HB.out | apply below_alloc | apply pw_below_drewN | apply below_drew1 | refine below_set ?_ GE162.out | refine below_set ?_ GE163.out) | exact HB.out))) : w.heap.size ≤ gb166)); have n6_ := Aside0.mk ((by rw [hg]; exact Nat.ne_of_lt (blk_lt (g := gb162) (o := .cells #[.slice A0_0 l0_0.length c0_0, .slice A0_1 l0_1.length c0_1, .slice A0_2 l0_2.length c0_2, .slice A0_3 l0_3.length c0_3, .slice A0_4 l0_4.length c0_4] 28 (0, 0)) (by (with_reducible repeat (first | refine blk_drewN ?_ _ | refine blk_drew ?_ | refine blk_alloc ?_ _)); exact BK162.out)) : gb162 ≠ gb166)); have n7_ := Aside0.mk ((by rw [hg]; exact Nat.ne_of_gt (blk_lt (g := gb162) (o := .cells #[.slice A0_0 l0_0.length c0_0, .slice A0_1 l0_1.length c0_1, .slice A0_2 l0_2.length c0_2, .slice A0_3 l0_3.length c0_3, .slice A0_4 l0_4.length c0_4] 28 (0, 0)) (by (with_reducible repeat (first | refine blk_drewN ?_ _ | refine blk_drew ?_ | refine blk_alloc ?_ _)); exact BK162.out)) : gb166 ≠ gb162)); have n8_ := Aside0.mk ((by rw [hg]; exact Nat.ne_of_lt (blk_lt (g := gb163) (o := .cells #[.slice none 0 0, .slice none 0 0, .slice none 0 0, .slice none 0 0, .slice none 0 0] 28 (0, 0)) (by (with_reducible repeat (first | refine blk_drewN ?_ _ | refine blk_drew ?_ | refine blk_alloc ?_ _)); exact BK163.out)) : gb163 ≠ gb166)); have n9_ := Aside0.mk ((by rw [hg]; exact Nat.ne_of_gt (blk_lt (g := gb163) (o := .cells #[.slice none 0 0, .slice none 0 0, .slice none 0 0, .slice none 0 0, .slice none 0 0] 28 (0, 0)) (by (with_reducible repeat (first | refine blk_drewN ?_ _ | refine blk_drew ?_ | refine blk_alloc ?_ _)); exact BK163.out)) : gb166 ≠ gb163)); clear BK162; clear BK163; clear HB; have BK162 := n0_; have BK163 := n1_; have HB := n2_; have BK166 := n3_; have GW166 := n4_; have GE166 := n5_; have NB162_166 := n6_; have NB166_162 := n7_; have NB163_166 := n8_; have NB166_163 := n9_; clear n0_ n1_ n2_ n3_ n4_ n5_ n6_ n7_ n8_ n9_; clear hb hbox hg; have hnb36 := NB166_162.out; have hnc36 := NB162_166.out; have hnb37 := NB166_163.out; have hnc37 := NB163_166.out; have hcz38_0 : w35.cell? ⟨gb166, 0, none⟩ = some (.slice none 0 0) := (blk_cell BK166.out 0).trans rfl; have hcz38_1 : w35.cell? ⟨gb166, 1, none⟩ = some (.slice none 0 0) := (blk_cell BK166.out 1).trans rfl; have hcz38_2 : w35.cell? ⟨gb166, 2, none⟩ = some (.slice none 0 0) := (blk_cell BK166.out 2).trans rfl; have hcz38_3 : w35.cell? ⟨gb166, 3, none⟩ = some (.slice none 0 0) := (blk_cell BK166.out 3).trans rfl; have hcz38_4 : w35.cell? ⟨gb166, 4, none⟩ = some (.slice none 0 0) := (blk_cell BK166.out 4).trans rfl; have hfz38_0 := blk_frozen BK166.out 0; have hfz38_1 := blk_frozen BK166.out 1; have hfz38_2 := blk_frozen BK166.out 2; have hfz38_3 := blk_frozen BK166.out 3; have hfz38_4 := blk_frozen BK166.out 4))
                    have n0_ : Aside0 ((((((w35.setCell ⟨gb166, 0, none⟩ (.slice none 0 0)).setCell ⟨gb166, 1, none⟩ (.slice none 0 0)).setCell ⟨gb166, 2, none⟩ (.slice none 0 0)).setCell ⟨gb166, 3, none⟩ (.slice none 0 0)).setCell ⟨gb166, 4, none⟩ (.slice none 0 0)).heap[gb162]? = some (.cells #[.slice A0_0 l0_0.length c0_0, .slice A0_1 l0_1.length c0_1, .slice A0_2 l0_2.length c0_2, .slice A0_3 l0_3.length c0_3, .slice A0_4 l0_4.length c0_4] 28 (0, 0))) := ⟨by (with_reducible repeat (first | refine blk_drewN ?_ _ | refine blk_drew ?_ | refine blk_alloc ?_ _)); refine blk_far ?_ NB162_166.out _; (with_reducible repeat (first | refine blk_drewN ?_ _ | refine blk_drew ?_ | refine blk_alloc ?_ _)); refine blk_far ?_ NB162_166.out _; (with_reducible repeat (first | refine blk_drewN ?_ _ | refine blk_drew ?_ | refine blk_alloc ?_ _)); refine blk_far ?_ NB162_166.out _; (with_reducible repeat (first | refine blk_drewN ?_ _ | refine blk_drew ?_ | refine blk_alloc ?_ _)); refine blk_far ?_ NB162_166.out _; (with_reducible repeat (first | refine blk_drewN ?_ _ | refine blk_drew ?_ | refine blk_alloc ?_ _)); refine blk_far ?_ NB162_166.out _; (with_reducible repeat (first | refine blk_drewN ?_ _ | refine blk_drew ?_ | refine blk_alloc ?_ _)); exact BK162.out⟩
                    have n1_ : Aside0 ((((((w35.setCell ⟨gb166, 0, none⟩ (.slice none 0 0)).setCell ⟨gb166, 1, none⟩ (.slice none 0 0)).setCell ⟨gb166, 2, none⟩ (.slice none 0 0)).setCell ⟨gb166, 3, none⟩ (.slice none 0 0)).setCell ⟨gb166, 4, none⟩ (.slice none 0 0)).heap[gb163]? = some (.cells #[.slice none 0 0, .slice none 0 0, .slice none 0 0, .slice none 0 0, .slice none 0 0] 28 (0, 0))) := ⟨by (with_reducible repeat (first | refine blk_drewN ?_ _ | refine blk_drew ?_ | refine blk_alloc ?_ _)); refine blk_far ?_ NB163_166.out _; (with_reducible repeat (first | refine blk_drewN ?_ _ | refine blk_drew ?_ | refine blk_alloc ?_ _)); refine blk_far ?_ NB163_166.out _; (with_reducible repeat (first | refine blk_drewN ?_ _ | refine blk_drew ?_ | refine blk_alloc ?_ _)); refine blk_far ?_ NB163_166.out _; (with_reducible repeat (first | refine blk_drewN ?_ _ | refine blk_drew ?_ | refine blk_alloc ?_ _)); refine blk_far ?_ NB163_166.out _; (with_reducible repeat (first | refine blk_drewN ?_ _ | refine blk_drew ?_ | refine blk_alloc ?_ _)); refine blk_far ?_ NB163_166.out _; (with_reducible repeat (first | refine blk_drewN ?_ _ | refine blk_drew ?_ | refine blk_alloc ?_ _)); exact BK163.out⟩
                    have n2_ : Aside0 ((((((w35.setCell ⟨gb166, 0, none⟩ (.slice none 0 0)).setCell ⟨gb166, 1, none⟩ (.slice none 0 0)).setCell ⟨gb166, 2, none⟩ (.slice none 0 0)).setCell ⟨gb166, 3, none⟩ (.slice none 0 0)).setCell ⟨gb166, 4, none⟩ (.slice none 0 0)).heap[gb166]? = some (.cells #[.slice none 0 0, .slice none 0 0, .slice none 0 0, .slice none 0 0, .slice none 0 0] 28 (0, 0))) := ⟨by (with_reducible repeat (first | refine blk_drewN ?_ _ | refine blk_drew ?_ | refine blk_alloc ?_ _)); refine blk_put (cs := #[.slice none 0 0, .slice none 0 0, .slice none 0 0, .slice none 0 0, .slice none 0 0]) ?_ 4 _ rfl; (with_reducible repeat (first | refine blk_drewN ?_ _ | refine blk_drew ?_ | refine blk_alloc ?_ _)); refine blk_put (cs := #[.slice none 0 0, .slice none 0 0, .slice none 0 0, .slice none 0 0, .slice none 0 0]) ?_ 3 _ rfl; (with_reducible repeat (first | refine blk_drewN ?_ _ | refine blk_drew ?_ | refine blk_alloc ?_ _)); refine blk_put (cs := #[.slice none 0 0, .slice none 0 0, .slice none 0 0, .slice none 0 0, .slice none 0 0]) ?_ 2 _ rfl; (with_reducible repeat (first | refine blk_drewN ?_ _ | refine blk_drew ?_ | refine blk_alloc ?_ _)); refine blk_put (cs := #[.slice none 0 0, .slice none 0 0, .slice none 0 0, .slice none 0 0, .slice none 0 0]) ?_ 1 _ rfl; (with_reducible repeat (first | refine blk_drewN ?_ _ | refine blk_drew ?_ | refine blk_alloc ?_ _)); refine blk_put (cs := #[.slice none 0 0, .slice none 0 0, .slice none 0 0, .slice none 0 0, .slice none 0 0]) ?_ 0 _ rfl; (with_reducible repeat (first | refine blk_drewN ?_ _ | refine blk_drew ?_ | refine blk_alloc ?_ _)); exact BK166.out⟩
                    have n3_ : Aside0 (Below w.heap.size w (((((w35.setCell ⟨gb166, 0, none⟩ (.slice none 0 0)).setCell ⟨gb166, 1, none⟩ (.slice none 0 0)).setCell ⟨gb166, 2, none⟩ (.slice none 0 0)).setCell ⟨gb166, 3, none⟩ (.slice none 0 0)).setCell ⟨gb166, 4, none⟩ (.slice none 0 0))) := ⟨by repeat (first | (with_reducible first | exact HB.out | apply below_alloc | apply pw_below_drewN | apply below_drew1 | refine below_set ?_ GE162.out | refine below_set ?_ GE163.out | refine below_set ?_ GE166.out) | exact HB.out)⟩
                    (try clear BK162)
                    (try clear BK163)
                    (try clear BK166)
                    (try clear HB)
                    generalize (((((w35.setCell ⟨gb166, 0, none⟩ (.slice none 0 0)).setCell ⟨gb166, 1, none⟩ (.slice none 0 0)).setCell ⟨gb166, 2, none⟩ (.slice none 0 0)).setCell ⟨gb166, 3, none⟩ (.slice none 0 0)).setCell ⟨gb166, 4, none⟩ (.slice none 0 0)) = w39 at n0_ n1_ n2_ n3_ ⊢
                    have BK162 := n0_
                    have BK163 := n1_
                    have BK166 := n2_
                    have HB := n3_
                    clear n0_ n1_ n2_ n3_
                    have n0_ := Aside0.mk (blk_drew BK162.out)
                    have n1_ := Aside0.mk (blk_drew BK163.out)
                    have n2_ := Aside0.mk (blk_drew BK166.out)
                    have n3_ := Aside0.mk (below_drew1 HB.out)
                    clear BK162
                    clear BK163
                    clear BK166
                    clear HB
                    have BK162 := n0_
                    have BK163 := n1_
                    have BK166 := n2_
                    have HB := n3_
                    clear n0_ n1_ n2_ n3_
                    obtain ⟨i041, hi041, _, hsz41, _⟩ := info_parts info9
                    obtain ⟨hcut41, hA41, hC41⟩ := print_take_of (P := Try.prog) Value.string (⟨#[]⟩ : ByteArray) 25 9 .i64 Try.underlying25 hi041 hsz41 A0_0 c0_0 l0_0 t164 (of_decide_eq_true (by first | (with_reducible assumption) | assumption)) (of_decide_eq_true (by first | (with_reducible assumption) | assumption)) HC0_0.out
                    have HR167 := Aside0.mk (Kd.C_of_reads (h1 := fun _ => rfl) (hA41 _ (Kd.reads_of_C HR0_0.out)))
                    have HC167 := Aside0.mk hC41
                    clear hA41 hC41 hi041 hsz41
                    refine start_ (n := 9) (S := fun w' => w'.cell? ⟨gb166, 0, none⟩ = some (.slice none 0 0) ∧ w'.cell? ⟨gb166, 1, none⟩ = some (.slice none 0 0) ∧ w'.cell? ⟨gb166, 2, none⟩ = some (.slice none 0 0) ∧ w'.cell? ⟨gb166, 3, none⟩ = some (.slice none 0 0) ∧ w'.cell? ⟨gb166, 4, none⟩ = some (.slice none 0 0) ∧ w'.cell? ⟨gb162, 0, none⟩ = some (.slice A0_0 l0_0.length c0_0) ∧ w'.cell? ⟨gb162, 1, none⟩ = some (.slice A0_1 l0_1.length c0_1) ∧ w'.cell? ⟨gb162, 2, none⟩ = some (.slice A0_2 l0_2.length c0_2) ∧ w'.cell? ⟨gb162, 3, none⟩ = some (.slice A0_3 l0_3.length c0_3) ∧ w'.cell? ⟨gb162, 4, none⟩ = some (.slice A0_4 l0_4.length c0_4)) (ds := [8]) #[false, false, false, false, false, false, false, false, false] (by kernel_rfl) rfl rfl ⟨(blk_cell BK166.out 0).trans rfl, (blk_cell BK166.out 1).trans rfl, (blk_cell BK166.out 2).trans rfl, (blk_cell BK166.out 3).trans rfl, (blk_cell BK166.out 4).trans rfl, (blk_cell BK162.out 0).trans rfl, (blk_cell BK162.out 1).trans rfl, (blk_cell BK162.out 2).trans rfl, (blk_cell BK162.out 3).trans rfl, (blk_cell BK162.out 4).trans rfl⟩ (fun hHeld => ?_); refine with_tabW musterref03_Insert.tab3 musterref03_Insert.bits3 (fun HT_ HW_ => ?_)
                    generalize w39.drew = w40 at BK162 BK163 BK166 HB HR167 hHeld ⊢
                    refine pure_ (i := 0) (N := some 25) (v := ?_) (a' := ?_) #[true, false, false, false, false, false, false, false, false] rfl rfl (any_of HT_.out (by kernel_rfl)) (fun _ _ _ h => h) (Or.inl ⟨by rfl, ?_⟩) ?_ ?_
                    rotate_left
                    ·intro w'
                     go_simp
                     with_reducible rfl
                    rotate_left
                    ·simp only [Act.put, List.setIfInBounds_toArray, List.set_cons_zero, List.set_cons_succ, i64_w, i32_w]
                     rfl
                    refine pure_ (i := 2) (N := some 27) (v := ?_) (a' := ?_) #[true, false, true, false, false, false, false, false, false] rfl rfl (any_of HT_.out (by kernel_rfl)) (fun _ _ _ h => h) (Or.inl ⟨by rfl, ?_⟩) ?_ ?_
                    rotate_left
                    ·intro w'
                     go_simp
                     with_reducible rfl
                    rotate_left
                    ·simp only [Act.put, List.setIfInBounds_toArray, List.set_cons_zero, List.set_cons_succ, i64_w, i32_w]
                     rfl
                    refine pure_ (i := 4) (N := some 29) (v := ?_) (a' := ?_) #[true, false, true, false, true, false, false, false, false] rfl rfl (any_of HT_.out (by kernel_rfl)) (fun _ _ _ h => h) (Or.inl ⟨by rfl, ?_⟩) ?_ ?_
                    rotate_left
                    ·intro w'
                     go_simp
                     with_reducible rfl
                    rotate_left
                    ·simp only [Act.put, List.setIfInBounds_toArray, List.set_cons_zero, List.set_cons_succ, i64_w, i32_w]
                     rfl
                    refine take_ (i := 1) (N := some 26) (v := ?_) (a' := ?_) #[true, true, true, false, true, false, false, false, false] rfl rfl (take_ofW HT_.out HW_.out (by kernel_rfl)) (fun _ _ _ h => h) (Or.inl ⟨by rfl, ?_⟩) hHeld ?_ ?_
                    rotate_left
                    ·rintro w' ⟨s0, s1, s2, s3, s4, s5, s6, s7, s8, s9⟩
                     go_simp
                     with_reducible rfl
                    rotate_left
                    ·simp only [Act.put, List.setIfInBounds_toArray, List.set_cons_zero, List.set_cons_succ, i64_w, i32_w]
                     rfl
                    refine take_ (i := 3) (N := some 28) (v := ?_) (a' := ?_) #[true, true, true, true, true, false, false, false, false] rfl rfl (take_ofW HT_.out HW_.out (by kernel_rfl)) (fun _ _ _ h => h) (Or.inl ⟨by rfl, ?_⟩) hHeld ?_ ?_
                    rotate_left
                    ·rintro w' ⟨s0, s1, s2, s3, s4, s5, s6, s7, s8, s9⟩
                     go_simp
                     with_reducible rfl
                    rotate_left
                    ·simp only [Act.put, List.setIfInBounds_toArray, List.set_cons_zero, List.set_cons_succ, i64_w, i32_w]
                     rfl
                    refine pure_ (i := 5) (N := some 30) (v := ?_) (a' := ?_) #[true, true, true, true, true, true, false, false, false] rfl rfl (any_of HT_.out (by kernel_rfl)) (fun _ _ _ h => h) (Or.inl ⟨by rfl, ?_⟩) ?_ ?_
                    rotate_left
                    ·intro w'
                     go_simp
                     with_reducible rfl
                    rotate_left
                    ·simp only [Act.put, List.setIfInBounds_toArray, List.set_cons_zero, List.set_cons_succ, i64_w, i32_w]
                     rfl
                    refine one_ (i := 6) (N := some 31) #[true, true, true, true, true, true, true, false, false] rfl rfl (one_of HT_.out (by kernel_rfl)) (by decide) (fun K hK => ?_)
                    refine Kd.R_append_rows_step Kd.string (w0 := w) w.heap.size (by rfl) (.tmp 26) (.tmp 30) 25 9 (.string ⟨#[]⟩) 16 rfl Try.underlying25 info9 rfl (by decide) (by omega) (.slice none 0 0) ([] : List ByteArray) (l0_0.take (t164 : Int).toNat) _ _ _ (fun _ => True) (fun _ => False) rfl rfl ?aO ?aR (fun _ _ h => h) (fun _ h => h.elim) ?aF ?aB ?aS ?aL ?_
                    (case aR => first | (have hz_ := (Kd.C_below HR167.out HB.out); rw [show (l0_0.take (t164 : Int).toNat).length = t164.toNat from (by rw [List.length_take]; have h_ : (t164 : Int) ≤ (l0_0.length : Int) := of_decide_eq_true (by first | (with_reducible assumption) | assumption); omega)] at hz_; exact hz_) | (rw [← show (l0_0.take (t164 : Int).toNat).length = t164.toNat from (by rw [List.length_take]; have h_ : (t164 : Int) ≤ (l0_0.length : Int) := of_decide_eq_true (by first | (with_reducible assumption) | assumption); omega)]; repeat (first | exact (Kd.C_below HR167.out HB.out) | (with_reducible refine Kd.C_alloc ?_ _) | (with_reducible refine Kd.C_drewN ?_ _) | (with_reducible refine Kd.C_drew ?_)); done) | (repeat (first | exact (Kd.C_below HR167.out HB.out) | (with_reducible refine Kd.C_alloc ?_ _) | (with_reducible refine Kd.C_drewN ?_ _) | (with_reducible refine Kd.C_drew ?_))))
                    (case aB => exact (by repeat (first | (with_reducible first | exact HB.out | apply below_alloc | apply pw_below_drewN | apply below_drew1 | refine below_set ?_ GE162.out | refine below_set ?_ GE163.out | refine below_set ?_ GE166.out) | exact HB.out)))
                    (case aF => exact (fun _ _ => trivial))
                    (case aO => exact ((Kd.R_nil _ _ _ _ (fun _ => True))))
                    (case aS => exact (below_size (by repeat (first | (with_reducible first | exact HB.out | apply below_alloc | apply pw_below_drewN | apply below_drew1 | refine below_set ?_ GE162.out | refine below_set ?_ GE163.out | refine below_set ?_ GE166.out) | exact HB.out))))
                    (case aL => have := LMc8.out; have hlx_ := (show (l0_0.take (t164 : Int).toNat).length = t164.toNat from (by rw [List.length_take]; have h_ : (t164 : Int) ≤ (l0_0.length : Int) := of_decide_eq_true (by first | (with_reducible assumption) | assumption); omega)); omega)
                    intro v169 w42 ho hb hg hat
                    rw [← Ny168.out] at ho
                    have n0_ := Aside0.mk (blk_grown (g := gb162) (o := .cells #[.slice A0_0 l0_0.length c0_0, .slice A0_1 l0_1.length c0_1, .slice A0_2 l0_2.length c0_2, .slice A0_3 l0_3.length c0_3, .slice A0_4 l0_4.length c0_4] 28 (0, 0)) (by (with_reducible repeat (first | refine blk_drewN ?_ _ | refine blk_drew ?_ | refine blk_alloc ?_ _)); exact BK162.out) hg (by simp [Value.ownBlock]))
                    have n1_ := Aside0.mk (blk_grown (g := gb163) (o := .cells #[.slice none 0 0, .slice none 0 0, .slice none 0 0, .slice none 0 0, .slice none 0 0] 28 (0, 0)) (by (with_reducible repeat (first | refine blk_drewN ?_ _ | refine blk_drew ?_ | refine blk_alloc ?_ _)); exact BK163.out) hg (by simp [Value.ownBlock]))
                    have n2_ := Aside0.mk (blk_grown (g := gb166) (o := .cells #[.slice none 0 0, .slice none 0 0, .slice none 0 0, .slice none 0 0, .slice none 0 0] 28 (0, 0)) (by (with_reducible repeat (first | refine blk_drewN ?_ _ | refine blk_drew ?_ | refine blk_alloc ?_ _)); exact BK166.out) hg (by simp [Value.ownBlock]))
                    have n3_ := Aside0.mk (hb)
                    have n4_ := Aside0.mk (ho)
                    clear BK162
                    clear BK163
                    clear BK166
                    clear HB
                    have BK162 := n0_
                    have BK163 := n1_
                    have BK166 := n2_
                    have HB := n3_
                    have HO170 := n4_
                    clear n0_ n1_ n2_ n3_ n4_
                    clear ho hb hg hat
                    obtain ⟨Ao43, co43, eo43⟩ := Kd.R_slice HO170.out
                    (first | subst eo43 | (injection eo43 with f1_ f2_ f3_; have f4_ := f1_.symm; have f5_ := f3_.symm; clear f1_ f2_ f3_; subst f4_; subst f5_))
                    refine hK.out _ _ ⟨(blk_cell BK166.out 0).trans rfl, (blk_cell BK166.out 1).trans rfl, (blk_cell BK166.out 2).trans rfl, (blk_cell BK166.out 3).trans rfl, (blk_cell BK166.out 4).trans rfl, (blk_cell BK162.out 0).trans rfl, (blk_cell BK162.out 1).trans rfl, (blk_cell BK162.out 2).trans rfl, (blk_cell BK162.out 3).trans rfl, (blk_cell BK162.out 4).trans rfl⟩ (fun hHeld => ?_)
                    clear hK K
                    refine norm_ (a' := ?_) ?_ ?_
                    rotate_left
                    ·show Act.put _ (some 31) _ = _
                     simp only [Act.put, List.setIfInBounds_toArray, List.set_cons_zero, List.set_cons_succ, i64_w, i32_w]
                     rfl
                    refine pure_ (i := 7) (N := some 32) (v := ?_) (a' := ?_) #[true, true, true, true, true, true, true, true, false] rfl rfl (any_of HT_.out (by kernel_rfl)) (fun _ _ _ h => h) (Or.inl ⟨by rfl, ?_⟩) ?_ ?_
                    rotate_left
                    ·intro w'
                     go_simp
                     with_reducible rfl
                    rotate_left
                    ·simp only [Act.put, List.setIfInBounds_toArray, List.set_cons_zero, List.set_cons_succ, i64_w, i32_w]
                     rfl
                    refine last_ (i := 8) (N := none) #[true, true, true, true, true, true, true, true, true] rfl rfl (one_of HT_.out (by kernel_rfl)) (by decide) (fun K hK => ?_)
                    have hs44 : w42.cell? ⟨gb166, 0, none⟩ = some (.slice none 0 0) := (blk_cell BK166.out 0).trans rfl
                    have hfs44 := blk_frozen BK166.out 0
                    have hns44_0 := NB162_166.out
                    have hns44_1 := NB163_166.out
                    have hms44_0 := NB166_162.out
                    have hms44_1 := NB166_163.out
                    refine skip_ (w1 := ?_) (by rfl) rfl ?_ ?_
                    rotate_left
                    ·go_simp
                     rfl
                    refine hK.out _ _ ?_
                    clear hK K
                    refine done_ (done_of HT_.out (by kernel_rfl)) ?_
                    try go_wp2
                    have n0_ : Aside0 (Kd.R Kd.string 9 (w42.setCell ⟨gb166, 0, none⟩ (.slice Ao43 y168.length co43)) w.heap.size (fun _ => True) (.slice Ao43 y168.length co43) y168) := ⟨by (with_reducible repeat (first | apply Kd.R_alloc | apply Kd.R_drewN | apply Kd.R_drew)); exact Kd.R_mono (Kd.R_far (p := ⟨gb166, 0, none⟩) (Kd.R_types HO170.out BK166.out (by decide)) (fun _ hk => hk.2) (.slice Ao43 y168.length co43)) (fun _ hk => trivial)⟩
                    have n1_ : Aside0 ((w42.setCell ⟨gb166, 0, none⟩ (.slice Ao43 y168.length co43)).heap[gb162]? = some (.cells #[.slice A0_0 l0_0.length c0_0, .slice A0_1 l0_1.length c0_1, .slice A0_2 l0_2.length c0_2, .slice A0_3 l0_3.length c0_3, .slice A0_4 l0_4.length c0_4] 28 (0, 0))) := ⟨by (with_reducible repeat (first | refine blk_drewN ?_ _ | refine blk_drew ?_ | refine blk_alloc ?_ _)); refine blk_far ?_ NB162_166.out _; (with_reducible repeat (first | refine blk_drewN ?_ _ | refine blk_drew ?_ | refine blk_alloc ?_ _)); exact BK162.out⟩
                    have n2_ : Aside0 ((w42.setCell ⟨gb166, 0, none⟩ (.slice Ao43 y168.length co43)).heap[gb163]? = some (.cells #[.slice none 0 0, .slice none 0 0, .slice none 0 0, .slice none 0 0, .slice none 0 0] 28 (0, 0))) := ⟨by (with_reducible repeat (first | refine blk_drewN ?_ _ | refine blk_drew ?_ | refine blk_alloc ?_ _)); refine blk_far ?_ NB163_166.out _; (with_reducible repeat (first | refine blk_drewN ?_ _ | refine blk_drew ?_ | refine blk_alloc ?_ _)); exact BK163.out⟩
                    have n3_ : Aside0 ((w42.setCell ⟨gb166, 0, none⟩ (.slice Ao43 y168.length co43)).heap[gb166]? = some (.cells #[.slice Ao43 y168.length co43, .slice none 0 0, .slice none 0 0, .slice none 0 0, .slice none 0 0] 28 (0, 0))) := ⟨by (with_reducible repeat (first | refine blk_drewN ?_ _ | refine blk_drew ?_ | refine blk_alloc ?_ _)); refine blk_put (cs := #[.slice none 0 0, .slice none 0 0, .slice none 0 0, .slice none 0 0, .slice none 0 0]) ?_ 0 _ rfl; (with_reducible repeat (first | refine blk_drewN ?_ _ | refine blk_drew ?_ | refine blk_alloc ?_ _)); exact BK166.out⟩
                    have n4_ : Aside0 (Below w.heap.size w (w42.setCell ⟨gb166, 0, none⟩ (.slice Ao43 y168.length co43))) := ⟨by repeat (first | (with_reducible first | exact HB.out | apply below_alloc | apply pw_below_drewN | apply below_drew1 | refine below_set ?_ GE162.out | refine below_set ?_ GE163.out | refine below_set ?_ GE166.out) | exact HB.out)⟩
                    (try clear HO170)
                    (try clear BK162)
                    (try clear BK163)
                    (try clear BK166)
                    (try clear HB)
                    generalize (w42.setCell ⟨gb166, 0, none⟩ (.slice Ao43 y168.length co43)) = w45 at n0_ n1_ n2_ n3_ n4_ ⊢
                    have HO170 := n0_
                    have BK162 := n1_
                    have BK163 := n2_
                    have BK166 := n3_
                    have HB := n4_
                    clear n0_ n1_ n2_ n3_ n4_
                    have n0_ := Aside0.mk (Kd.R_drew HO170.out)
                    have n1_ := Aside0.mk (blk_drew BK162.out)
                    have n2_ := Aside0.mk (blk_drew BK163.out)
                    have n3_ := Aside0.mk (blk_drew BK166.out)
                    have n4_ := Aside0.mk (below_drew1 HB.out)
                    clear HO170
                    clear BK162
                    clear BK163
                    clear BK166
                    clear HB
                    have HO170 := n0_
                    have BK162 := n1_
                    have BK163 := n2_
                    have BK166 := n3_
                    have HB := n4_
                    clear n0_ n1_ n2_ n3_ n4_
                    obtain ⟨i047, hi047, _, hsz47, _⟩ := info_parts info3
                    obtain ⟨hcut47, hA47, hC47⟩ := print_take_of (P := Try.prog) (Value.int .i64) 0 26 3 .i64 Try.underlying26 hi047 hsz47 A0_1 c0_1 l0_1 t164 (of_decide_eq_true (by first | (with_reducible assumption) | assumption)) (of_decide_eq_true (by first | (with_reducible assumption) | assumption)) HC0_1.out
                    have HR171 := Aside0.mk (Kd.C_of_reads (h1 := fun _ => rfl) (hA47 _ (Kd.reads_of_C HR0_1.out)))
                    have HC171 := Aside0.mk hC47
                    clear hA47 hC47 hi047 hsz47
                    refine start_ (n := 9) (S := fun w' => w'.cell? ⟨gb166, 0, none⟩ = some (.slice Ao43 y168.length co43) ∧ w'.cell? ⟨gb166, 1, none⟩ = some (.slice none 0 0) ∧ w'.cell? ⟨gb166, 2, none⟩ = some (.slice none 0 0) ∧ w'.cell? ⟨gb166, 3, none⟩ = some (.slice none 0 0) ∧ w'.cell? ⟨gb166, 4, none⟩ = some (.slice none 0 0) ∧ w'.cell? ⟨gb162, 0, none⟩ = some (.slice A0_0 l0_0.length c0_0) ∧ w'.cell? ⟨gb162, 1, none⟩ = some (.slice A0_1 l0_1.length c0_1) ∧ w'.cell? ⟨gb162, 2, none⟩ = some (.slice A0_2 l0_2.length c0_2) ∧ w'.cell? ⟨gb162, 3, none⟩ = some (.slice A0_3 l0_3.length c0_3) ∧ w'.cell? ⟨gb162, 4, none⟩ = some (.slice A0_4 l0_4.length c0_4)) (ds := [8]) #[false, false, false, false, false, false, false, false, false] (by kernel_rfl) rfl rfl ⟨(blk_cell BK166.out 0).trans rfl, (blk_cell BK166.out 1).trans rfl, (blk_cell BK166.out 2).trans rfl, (blk_cell BK166.out 3).trans rfl, (blk_cell BK166.out 4).trans rfl, (blk_cell BK162.out 0).trans rfl, (blk_cell BK162.out 1).trans rfl, (blk_cell BK162.out 2).trans rfl, (blk_cell BK162.out 3).trans rfl, (blk_cell BK162.out 4).trans rfl⟩ (fun hHeld => ?_); refine with_tabW musterref03_Insert.tab4 musterref03_Insert.bits4 (fun HT_ HW_ => ?_)
                    generalize w45.drew = w46 at HO170 BK162 BK163 BK166 HB HR171 hHeld ⊢
                    refine pure_ (i := 0) (N := some 33) (v := ?_) (a' := ?_) #[true, false, false, false, false, false, false, false, false] rfl rfl (any_of HT_.out (by kernel_rfl)) (fun _ _ _ h => h) (Or.inl ⟨by rfl, ?_⟩) ?_ ?_
                    rotate_left
                    ·intro w'
                     go_simp
                     with_reducible rfl
                    rotate_left
                    ·simp only [Act.put, List.setIfInBounds_toArray, List.set_cons_zero, List.set_cons_succ, i64_w, i32_w]
                     rfl
                    refine pure_ (i := 2) (N := some 35) (v := ?_) (a' := ?_) #[true, false, true, false, false, false, false, false, false] rfl rfl (any_of HT_.out (by kernel_rfl)) (fun _ _ _ h => h) (Or.inl ⟨by rfl, ?_⟩) ?_ ?_
                    rotate_left
                    ·intro w'
                     go_simp
                     with_reducible rfl
                    rotate_left
                    ·simp only [Act.put, List.setIfInBounds_toArray, List.set_cons_zero, List.set_cons_succ, i64_w, i32_w]
                     rfl
                    refine pure_ (i := 4) (N := some 37) (v := ?_) (a' := ?_) #[true, false, true, false, true, false, false, false, false] rfl rfl (any_of HT_.out (by kernel_rfl)) (fun _ _ _ h => h) (Or.inl ⟨by rfl, ?_⟩) ?_ ?_
                    rotate_left
                    ·intro w'
                     go_simp
                     with_reducible rfl
                    rotate_left
                    ·simp only [Act.put, List.setIfInBounds_toArray, List.set_cons_zero, List.set_cons_succ, i64_w, i32_w]
                     rfl
                    refine take_ (i := 1) (N := some 34) (v := ?_) (a' := ?_) #[true, true, true, false, true, false, false, false, false] rfl rfl (take_ofW HT_.out HW_.out (by kernel_rfl)) (fun _ _ _ h => h) (Or.inl ⟨by rfl, ?_⟩) hHeld ?_ ?_
                    rotate_left
                    ·rintro w' ⟨s0, s1, s2, s3, s4, s5, s6, s7, s8, s9⟩
                     go_simp
                     with_reducible rfl
                    rotate_left
                    ·simp only [Act.put, List.setIfInBounds_toArray, List.set_cons_zero, List.set_cons_succ, i64_w, i32_w]
                     rfl
                    refine take_ (i := 3) (N := some 36) (v := ?_) (a' := ?_) #[true, true, true, true, true, false, false, false, false] rfl rfl (take_ofW HT_.out HW_.out (by kernel_rfl)) (fun _ _ _ h => h) (Or.inl ⟨by rfl, ?_⟩) hHeld ?_ ?_
                    rotate_left
                    ·rintro w' ⟨s0, s1, s2, s3, s4, s5, s6, s7, s8, s9⟩
                     go_simp
                     with_reducible rfl
                    rotate_left
                    ·simp only [Act.put, List.setIfInBounds_toArray, List.set_cons_zero, List.set_cons_succ, i64_w, i32_w]
                     rfl
                    refine pure_ (i := 5) (N := some 38) (v := ?_) (a' := ?_) #[true, true, true, true, true, true, false, false, false] rfl rfl (any_of HT_.out (by kernel_rfl)) (fun _ _ _ h => h) (Or.inl ⟨by rfl, ?_⟩) ?_ ?_
                    rotate_left
                    ·intro w'
                     go_simp
                     with_reducible rfl
                    rotate_left
                    ·simp only [Act.put, List.setIfInBounds_toArray, List.set_cons_zero, List.set_cons_succ, i64_w, i32_w]
                     rfl
                    refine one_ (i := 6) (N := some 39) #[true, true, true, true, true, true, true, false, false] rfl rfl (one_of HT_.out (by kernel_rfl)) (by decide) (fun K hK => ?_)
                    refine Kd.R_append_rows_step (Kd.int .i64) (w0 := w) w.heap.size (by rfl) (.tmp 34) (.tmp 38) 26 3 (.int .i64 0) 8 rfl Try.underlying26 info3 rfl (by decide) (by omega) (.slice none 0 0) ([] : List Int) (l0_1.take (t164 : Int).toNat) _ _ _ (fun _ => True) (fun _ => False) rfl rfl ?aO ?aR (fun _ _ h => h) (fun _ h => h.elim) ?aF ?aB ?aS ?aL ?_
                    (case aR => first | (have hz_ := (Kd.C_below HR171.out HB.out); rw [show (l0_1.take (t164 : Int).toNat).length = t164.toNat from (by rw [List.length_take]; have h_ : (t164 : Int) ≤ (l0_1.length : Int) := of_decide_eq_true (by first | (with_reducible assumption) | assumption); omega)] at hz_; exact hz_) | (rw [← show (l0_1.take (t164 : Int).toNat).length = t164.toNat from (by rw [List.length_take]; have h_ : (t164 : Int) ≤ (l0_1.length : Int) := of_decide_eq_true (by first | (with_reducible assumption) | assumption); omega)]; repeat (first | exact (Kd.C_below HR171.out HB.out) | (with_reducible refine Kd.C_alloc ?_ _) | (with_reducible refine Kd.C_drewN ?_ _) | (with_reducible refine Kd.C_drew ?_)); done) | (repeat (first | exact (Kd.C_below HR171.out HB.out) | (with_reducible refine Kd.C_alloc ?_ _) | (with_reducible refine Kd.C_drewN ?_ _) | (with_reducible refine Kd.C_drew ?_))))
                    (case aB => exact (by repeat (first | (with_reducible first | exact HB.out | apply below_alloc | apply pw_below_drewN | apply below_drew1 | refine below_set ?_ GE162.out | refine below_set ?_ GE163.out | refine below_set ?_ GE166.out) | exact HB.out)))
                    (case aF => exact (fun _ _ => trivial))
                    (case aO => exact ((Kd.R_nil _ _ _ _ (fun _ => True))))
                    (case aS => exact (below_size (by repeat (first | (with_reducible first | exact HB.out | apply below_alloc | apply pw_below_drewN | apply below_drew1 | refine below_set ?_ GE162.out | refine below_set ?_ GE163.out | refine below_set ?_ GE166.out) | exact HB.out))))
                    (case aL => have := LMc11.out; have hlx_ := (show (l0_1.take (t164 : Int).toNat).length = t164.toNat from (by rw [List.length_take]; have h_ : (t164 : Int) ≤ (l0_1.length : Int) := of_decide_eq_true (by first | (with_reducible assumption) | assumption); omega)); omega)
                    intro v173 w48 ho hb hg hat
                    rw [← Ny172.out] at ho
                    have n0_ := Aside0.mk (blk_grown (g := gb162) (o := .cells #[.slice A0_0 l0_0.length c0_0, .slice A0_1 l0_1.length c0_1, .slice A0_2 l0_2.length c0_2, .slice A0_3 l0_3.length c0_3, .slice A0_4 l0_4.length c0_4] 28 (0, 0)) (by (with_reducible repeat (first | refine blk_drewN ?_ _ | refine blk_drew ?_ | refine blk_alloc ?_ _)); exact BK162.out) hg (by simp [Value.ownBlock]))
                    have n1_ := Aside0.mk (blk_grown (g := gb163) (o := .cells #[.slice none 0 0, .slice none 0 0, .slice none 0 0, .slice none 0 0, .slice none 0 0] 28 (0, 0)) (by (with_reducible repeat (first | refine blk_drewN ?_ _ | refine blk_drew ?_ | refine blk_alloc ?_ _)); exact BK163.out) hg (by simp [Value.ownBlock]))
                    have n2_ := Aside0.mk (blk_grown (g := gb166) (o := .cells #[.slice Ao43 y168.length co43, .slice none 0 0, .slice none 0 0, .slice none 0 0, .slice none 0 0] 28 (0, 0)) (by (with_reducible repeat (first | refine blk_drewN ?_ _ | refine blk_drew ?_ | refine blk_alloc ?_ _)); exact BK166.out) hg (by simp [Value.ownBlock]))
                    have n3_ := Aside0.mk (Kd.R_grown (by (with_reducible repeat (first | apply Kd.R_alloc | apply Kd.R_drewN | apply Kd.R_drew)); exact HO170.out) hg (fun _ _ => by simp [Value.ownBlock]))
                    have n4_ := Aside0.mk (hb)
                    have n5_ := Aside0.mk (ho)
                    clear BK162
                    clear BK163
                    clear BK166
                    clear HO170
                    clear HB
                    have BK162 := n0_
                    have BK163 := n1_
                    have BK166 := n2_
                    have HO170 := n3_
                    have HB := n4_
                    have HO174 := n5_
                    clear n0_ n1_ n2_ n3_ n4_ n5_
                    clear ho hb hg hat
                    obtain ⟨Ao49, co49, eo49⟩ := Kd.R_slice HO174.out
                    (first | subst eo49 | (injection eo49 with f1_ f2_ f3_; have f4_ := f1_.symm; have f5_ := f3_.symm; clear f1_ f2_ f3_; subst f4_; subst f5_))
                    refine hK.out _ _ ⟨(blk_cell BK166.out 0).trans rfl, (blk_cell BK166.out 1).trans rfl, (blk_cell BK166.out 2).trans rfl, (blk_cell BK166.out 3).trans rfl, (blk_cell BK166.out 4).trans rfl, (blk_cell BK162.out 0).trans rfl, (blk_cell BK162.out 1).trans rfl, (blk_cell BK162.out 2).trans rfl, (blk_cell BK162.out 3).trans rfl, (blk_cell BK162.out 4).trans rfl⟩ (fun hHeld => ?_)
                    clear hK K
                    refine norm_ (a' := ?_) ?_ ?_
                    rotate_left
                    ·show Act.put _ (some 39) _ = _
                     simp only [Act.put, List.setIfInBounds_toArray, List.set_cons_zero, List.set_cons_succ, i64_w, i32_w]
                     rfl
                    refine pure_ (i := 7) (N := some 40) (v := ?_) (a' := ?_) #[true, true, true, true, true, true, true, true, false] rfl rfl (any_of HT_.out (by kernel_rfl)) (fun _ _ _ h => h) (Or.inl ⟨by rfl, ?_⟩) ?_ ?_
                    rotate_left
                    ·intro w'
                     go_simp
                     with_reducible rfl
                    rotate_left
                    ·simp only [Act.put, List.setIfInBounds_toArray, List.set_cons_zero, List.set_cons_succ, i64_w, i32_w]
                     rfl
                    refine last_ (i := 8) (N := none) #[true, true, true, true, true, true, true, true, true] rfl rfl (one_of HT_.out (by kernel_rfl)) (by decide) (fun K hK => ?_)
                    have hs50 : w48.cell? ⟨gb166, 1, none⟩ = some (.slice none 0 0) := (blk_cell BK166.out 1).trans rfl
                    have hfs50 := blk_frozen BK166.out 1
                    have hns50_0 := NB162_166.out
                    have hns50_1 := NB163_166.out
                    have hms50_0 := NB166_162.out
                    have hms50_1 := NB166_163.out
                    refine skip_ (w1 := ?_) (by rfl) rfl ?_ ?_
                    rotate_left
                    ·go_simp
                     rfl
                    refine hK.out _ _ ?_
                    clear hK K
                    refine done_ (done_of HT_.out (by kernel_rfl)) ?_
                    try go_wp2
                    have n0_ : Aside0 (Kd.R Kd.string 9 (w48.setCell ⟨gb166, 1, none⟩ (.slice Ao49 y172.length co49)) w.heap.size (fun _ => True) (.slice Ao43 y168.length co43) y168) := ⟨by (with_reducible repeat (first | apply Kd.R_alloc | apply Kd.R_drewN | apply Kd.R_drew)); exact Kd.R_mono (Kd.R_far (p := ⟨gb166, 1, none⟩) (Kd.R_types HO170.out BK166.out (by decide)) (fun _ hk => hk.2) (.slice Ao49 y172.length co49)) (fun _ hk => trivial)⟩
                    have n1_ : Aside0 (Kd.R (Kd.int .i64) 3 (w48.setCell ⟨gb166, 1, none⟩ (.slice Ao49 y172.length co49)) w.heap.size (fun _ => True) (.slice Ao49 y172.length co49) y172) := ⟨by (with_reducible repeat (first | apply Kd.R_alloc | apply Kd.R_drewN | apply Kd.R_drew)); exact Kd.R_mono (Kd.R_far (p := ⟨gb166, 1, none⟩) (Kd.R_types HO174.out BK166.out (by decide)) (fun _ hk => hk.2) (.slice Ao49 y172.length co49)) (fun _ hk => trivial)⟩
                    have n2_ : Aside0 ((w48.setCell ⟨gb166, 1, none⟩ (.slice Ao49 y172.length co49)).heap[gb162]? = some (.cells #[.slice A0_0 l0_0.length c0_0, .slice A0_1 l0_1.length c0_1, .slice A0_2 l0_2.length c0_2, .slice A0_3 l0_3.length c0_3, .slice A0_4 l0_4.length c0_4] 28 (0, 0))) := ⟨by (with_reducible repeat (first | refine blk_drewN ?_ _ | refine blk_drew ?_ | refine blk_alloc ?_ _)); refine blk_far ?_ NB162_166.out _; (with_reducible repeat (first | refine blk_drewN ?_ _ | refine blk_drew ?_ | refine blk_alloc ?_ _)); exact BK162.out⟩
                    have n3_ : Aside0 ((w48.setCell ⟨gb166, 1, none⟩ (.slice Ao49 y172.length co49)).heap[gb163]? = some (.cells #[.slice none 0 0, .slice none 0 0, .slice none 0 0, .slice none 0 0, .slice none 0 0] 28 (0, 0))) := ⟨by (with_reducible repeat (first | refine blk_drewN ?_ _ | refine blk_drew ?_ | refine blk_alloc ?_ _)); refine blk_far ?_ NB163_166.out _; (with_reducible repeat (first | refine blk_drewN ?_ _ | refine blk_drew ?_ | refine blk_alloc ?_ _)); exact BK163.out⟩
                    have n4_ : Aside0 ((w48.setCell ⟨gb166, 1, none⟩ (.slice Ao49 y172.length co49)).heap[gb166]? = some (.cells #[.slice Ao43 y168.length co43, .slice Ao49 y172.length co49, .slice none 0 0, .slice none 0 0, .slice none 0 0] 28 (0, 0))) := ⟨by (with_reducible repeat (first | refine blk_drewN ?_ _ | refine blk_drew ?_ | refine blk_alloc ?_ _)); refine blk_put (cs := #[.slice Ao43 y168.length co43, .slice none 0 0, .slice none 0 0, .slice none 0 0, .slice none 0 0]) ?_ 1 _ rfl; (with_reducible repeat (first | refine blk_drewN ?_ _ | refine blk_drew ?_ | refine blk_alloc ?_ _)); exact BK166.out⟩
                    have n5_ : Aside0 (Below w.heap.size w (w48.setCell ⟨gb166, 1, none⟩ (.slice Ao49 y172.length co49))) := ⟨by repeat (first | (with_reducible first | exact HB.out | apply below_alloc | apply pw_below_drewN | apply below_drew1 | refine below_set ?_ GE162.out | refine below_set ?_ GE163.out | refine below_set ?_ GE166.out) | exact HB.out)⟩
                    (try clear HO170)
                    (try clear HO174)
                    (try clear BK162)
                    (try clear BK163)
                    (try clear BK166)
                    (try clear HB)
                    generalize (w48.setCell ⟨gb166, 1, none⟩ (.slice Ao49 y172.length co49)) = w51 at n0_ n1_ n2_ n3_ n4_ n5_ ⊢
                    have HO170 := n0_
                    have HO174 := n1_
                    have BK162 := n2_
                    have BK163 := n3_
                    have BK166 := n4_
                    have HB := n5_
                    clear n0_ n1_ n2_ n3_ n4_ n5_
                    have n0_ := Aside0.mk (Kd.R_drew HO170.out)
                    have n1_ := Aside0.mk (Kd.R_drew HO174.out)
                    have n2_ := Aside0.mk (blk_drew BK162.out)
                    have n3_ := Aside0.mk (blk_drew BK163.out)
                    have n4_ := Aside0.mk (blk_drew BK166.out)
                    have n5_ := Aside0.mk (below_drew1 HB.out)
                    clear HO170
                    clear HO174
                    clear BK162
                    clear BK163
                    clear BK166
                    clear HB
                    have HO170 := n0_
                    have HO174 := n1_
                    have BK162 := n2_
                    have BK163 := n3_
                    have BK166 := n4_
                    have HB := n5_
                    clear n0_ n1_ n2_ n3_ n4_ n5_
                    obtain ⟨i053, hi053, _, hsz53, _⟩ := info_parts info3
                    obtain ⟨hcut53, hA53, hC53⟩ := print_take_of (P := Try.prog) (Value.int .i64) 0 26 3 .i64 Try.underlying26 hi053 hsz53 A0_2 c0_2 l0_2 t164 (of_decide_eq_true (by first | (with_reducible assumption) | assumption)) (of_decide_eq_true (by first | (with_reducible assumption) | assumption)) HC0_2.out
                    have HR175 := Aside0.mk (Kd.C_of_reads (h1 := fun _ => rfl) (hA53 _ (Kd.reads_of_C HR0_2.out)))
                    have HC175 := Aside0.mk hC53
                    clear hA53 hC53 hi053 hsz53
                    refine start_ (n := 9) (S := fun w' => w'.cell? ⟨gb166, 0, none⟩ = some (.slice Ao43 y168.length co43) ∧ w'.cell? ⟨gb166, 1, none⟩ = some (.slice Ao49 y172.length co49) ∧ w'.cell? ⟨gb166, 2, none⟩ = some (.slice none 0 0) ∧ w'.cell? ⟨gb166, 3, none⟩ = some (.slice none 0 0) ∧ w'.cell? ⟨gb166, 4, none⟩ = some (.slice none 0 0) ∧ w'.cell? ⟨gb162, 0, none⟩ = some (.slice A0_0 l0_0.length c0_0) ∧ w'.cell? ⟨gb162, 1, none⟩ = some (.slice A0_1 l0_1.length c0_1) ∧ w'.cell? ⟨gb162, 2, none⟩ = some (.slice A0_2 l0_2.length c0_2) ∧ w'.cell? ⟨gb162, 3, none⟩ = some (.slice A0_3 l0_3.length c0_3) ∧ w'.cell? ⟨gb162, 4, none⟩ = some (.slice A0_4 l0_4.length c0_4)) (ds := [8]) #[false, false, false, false, false, false, false, false, false] (by kernel_rfl) rfl rfl ⟨(blk_cell BK166.out 0).trans rfl, (blk_cell BK166.out 1).trans rfl, (blk_cell BK166.out 2).trans rfl, (blk_cell BK166.out 3).trans rfl, (blk_cell BK166.out 4).trans rfl, (blk_cell BK162.out 0).trans rfl, (blk_cell BK162.out 1).trans rfl, (blk_cell BK162.out 2).trans rfl, (blk_cell BK162.out 3).trans rfl, (blk_cell BK162.out 4).trans rfl⟩ (fun hHeld => ?_); refine with_tabW musterref03_Insert.tab5 musterref03_Insert.bits5 (fun HT_ HW_ => ?_)
                    generalize w51.drew = w52 at HO170 HO174 BK162 BK163 BK166 HB HR175 hHeld ⊢
                    refine pure_ (i := 0) (N := some 41) (v := ?_) (a' := ?_) #[true, false, false, false, false, false, false, false, false] rfl rfl (any_of HT_.out (by kernel_rfl)) (fun _ _ _ h => h) (Or.inl ⟨by rfl, ?_⟩) ?_ ?_
                    rotate_left
                    ·intro w'
                     go_simp
                     with_reducible rfl
                    rotate_left
                    ·simp only [Act.put, List.setIfInBounds_toArray, List.set_cons_zero, List.set_cons_succ, i64_w, i32_w]
                     rfl
                    refine pure_ (i := 2) (N := some 43) (v := ?_) (a' := ?_) #[true, false, true, false, false, false, false, false, false] rfl rfl (any_of HT_.out (by kernel_rfl)) (fun _ _ _ h => h) (Or.inl ⟨by rfl, ?_⟩) ?_ ?_
                    rotate_left
                    ·intro w'
                     go_simp
                     with_reducible rfl
                    rotate_left
                    ·simp only [Act.put, List.setIfInBounds_toArray, List.set_cons_zero, List.set_cons_succ, i64_w, i32_w]
                     rfl
                    refine pure_ (i := 4) (N := some 45) (v := ?_) (a' := ?_) #[true, false, true, false, true, false, false, false, false] rfl rfl (any_of HT_.out (by kernel_rfl)) (fun _ _ _ h => h) (Or.inl ⟨by rfl, ?_⟩) ?_ ?_
                    rotate_left
                    ·intro w'
                     go_simp
                     with_reducible rfl
                    rotate_left
                    ·simp only [Act.put, List.setIfInBounds_toArray, List.set_cons_zero, List.set_cons_succ, i64_w, i32_w]
                     rfl
                    refine take_ (i := 1) (N := some 42) (v := ?_) (a' := ?_) #[true, true, true, false, true, false, false, false, false] rfl rfl (take_ofW HT_.out HW_.out (by kernel_rfl)) (fun _ _ _ h => h) (Or.inl ⟨by rfl, ?_⟩) hHeld ?_ ?_
                    rotate_left
                    ·rintro w' ⟨s0, s1, s2, s3, s4, s5, s6, s7, s8, s9⟩
                     go_simp
                     with_reducible rfl
                    rotate_left
                    ·simp only [Act.put, List.setIfInBounds_toArray, List.set_cons_zero, List.set_cons_succ, i64_w, i32_w]
                     rfl
                    refine take_ (i := 3) (N := some 44) (v := ?_) (a' := ?_) #[true, true, true, true, true, false, false, false, false] rfl rfl (take_ofW HT_.out HW_.out (by kernel_rfl)) (fun _ _ _ h => h) (Or.inl ⟨by rfl, ?_⟩) hHeld ?_ ?_
                    rotate_left
                    ·rintro w' ⟨s0, s1, s2, s3, s4, s5, s6, s7, s8, s9⟩
                     go_simp
                     with_reducible rfl
                    rotate_left
                    ·simp only [Act.put, List.setIfInBounds_toArray, List.set_cons_zero, List.set_cons_succ, i64_w, i32_w]
                     rfl
                    refine pure_ (i := 5) (N := some 46) (v := ?_) (a' := ?_) #[true, true, true, true, true, true, false, false, false] rfl rfl (any_of HT_.out (by kernel_rfl)) (fun _ _ _ h => h) (Or.inl ⟨by rfl, ?_⟩) ?_ ?_
                    rotate_left
                    ·intro w'
                     go_simp
                     with_reducible rfl
                    rotate_left
                    ·simp only [Act.put, List.setIfInBounds_toArray, List.set_cons_zero, List.set_cons_succ, i64_w, i32_w]
                     rfl
                    refine one_ (i := 6) (N := some 47) #[true, true, true, true, true, true, true, false, false] rfl rfl (one_of HT_.out (by kernel_rfl)) (by decide) (fun K hK => ?_)
                    refine Kd.R_append_rows_step (Kd.int .i64) (w0 := w) w.heap.size (by rfl) (.tmp 42) (.tmp 46) 26 3 (.int .i64 0) 8 rfl Try.underlying26 info3 rfl (by decide) (by omega) (.slice none 0 0) ([] : List Int) (l0_2.take (t164 : Int).toNat) _ _ _ (fun k_ => some k_ ≠ (.slice Ao49 y172.length co49 : Value).ownBlock) (fun _ => False) rfl rfl ?aO ?aR (fun _ _ h => h) (fun _ h => h.elim) ?aF ?aB ?aS ?aL ?_
                    (case aR => first | (have hz_ := (Kd.C_below HR175.out HB.out); rw [show (l0_2.take (t164 : Int).toNat).length = t164.toNat from (by rw [List.length_take]; have h_ : (t164 : Int) ≤ (l0_2.length : Int) := of_decide_eq_true (by first | (with_reducible assumption) | assumption); omega)] at hz_; exact hz_) | (rw [← show (l0_2.take (t164 : Int).toNat).length = t164.toNat from (by rw [List.length_take]; have h_ : (t164 : Int) ≤ (l0_2.length : Int) := of_decide_eq_true (by first | (with_reducible assumption) | assumption); omega)]; repeat (first | exact (Kd.C_below HR175.out HB.out) | (with_reducible refine Kd.C_alloc ?_ _) | (with_reducible refine Kd.C_drewN ?_ _) | (with_reducible refine Kd.C_drew ?_)); done) | (repeat (first | exact (Kd.C_below HR175.out HB.out) | (with_reducible refine Kd.C_alloc ?_ _) | (with_reducible refine Kd.C_drewN ?_ _) | (with_reducible refine Kd.C_drew ?_))))
                    (case aB => exact (by repeat (first | (with_reducible first | exact HB.out | apply below_alloc | apply pw_below_drewN | apply below_drew1 | refine below_set ?_ GE162.out | refine below_set ?_ GE163.out | refine below_set ?_ GE166.out) | exact HB.out)))
                    (case aF => exact (fun k_ hk => Kd.fresh' (Kd.R_lt (by (with_reducible repeat (first | apply Kd.R_alloc | apply Kd.R_drewN | apply Kd.R_drew)); exact HO174.out)) k_ hk))
                    (case aO => exact ((Kd.R_nil _ _ _ _ (fun k_ => some k_ ≠ (.slice Ao49 y172.length co49 : Value).ownBlock))))
                    (case aS => exact (below_size (by repeat (first | (with_reducible first | exact HB.out | apply below_alloc | apply pw_below_drewN | apply below_drew1 | refine below_set ?_ GE162.out | refine below_set ?_ GE163.out | refine below_set ?_ GE166.out) | exact HB.out))))
                    (case aL => have := LMc14.out; have hlx_ := (show (l0_2.take (t164 : Int).toNat).length = t164.toNat from (by rw [List.length_take]; have h_ : (t164 : Int) ≤ (l0_2.length : Int) := of_decide_eq_true (by first | (with_reducible assumption) | assumption); omega)); omega)
                    intro v177 w54 ho hb hg hat
                    rw [← Ny176.out] at ho
                    have n0_ := Aside0.mk (blk_grown (g := gb162) (o := .cells #[.slice A0_0 l0_0.length c0_0, .slice A0_1 l0_1.length c0_1, .slice A0_2 l0_2.length c0_2, .slice A0_3 l0_3.length c0_3, .slice A0_4 l0_4.length c0_4] 28 (0, 0)) (by (with_reducible repeat (first | refine blk_drewN ?_ _ | refine blk_drew ?_ | refine blk_alloc ?_ _)); exact BK162.out) hg (by simp [Value.ownBlock]))
                    have n1_ := Aside0.mk (blk_grown (g := gb163) (o := .cells #[.slice none 0 0, .slice none 0 0, .slice none 0 0, .slice none 0 0, .slice none 0 0] 28 (0, 0)) (by (with_reducible repeat (first | refine blk_drewN ?_ _ | refine blk_drew ?_ | refine blk_alloc ?_ _)); exact BK163.out) hg (by simp [Value.ownBlock]))
                    have n2_ := Aside0.mk (blk_grown (g := gb166) (o := .cells #[.slice Ao43 y168.length co43, .slice Ao49 y172.length co49, .slice none 0 0, .slice none 0 0, .slice none 0 0] 28 (0, 0)) (by (with_reducible repeat (first | refine blk_drewN ?_ _ | refine blk_drew ?_ | refine blk_alloc ?_ _)); exact BK166.out) hg (by simp [Value.ownBlock]))
                    have n3_ := Aside0.mk (Kd.R_grown (by (with_reducible repeat (first | apply Kd.R_alloc | apply Kd.R_drewN | apply Kd.R_drew)); exact HO170.out) hg (fun _ _ => by simp [Value.ownBlock]))
                    have n4_ := Aside0.mk (Kd.R_after (Kd.R_apart_nil (by (with_reducible repeat (first | apply Kd.R_alloc | apply Kd.R_drewN | apply Kd.R_drew)); exact HO174.out)) hg hat)
                    have n5_ := Aside0.mk (hb)
                    have n6_ := Aside0.mk (ho)
                    clear BK162
                    clear BK163
                    clear BK166
                    clear HO170
                    clear HO174
                    clear HB
                    have BK162 := n0_
                    have BK163 := n1_
                    have BK166 := n2_
                    have HO170 := n3_
                    have HO174 := n4_
                    have HB := n5_
                    have HO178 := n6_
                    clear n0_ n1_ n2_ n3_ n4_ n5_ n6_
                    clear ho hb hg hat
                    obtain ⟨Ao55, co55, eo55⟩ := Kd.R_slice HO178.out
                    (first | subst eo55 | (injection eo55 with f1_ f2_ f3_; have f4_ := f1_.symm; have f5_ := f3_.symm; clear f1_ f2_ f3_; subst f4_; subst f5_))
                    refine hK.out _ _ ⟨(blk_cell BK166.out 0).trans rfl, (blk_cell BK166.out 1).trans rfl, (blk_cell BK166.out 2).trans rfl, (blk_cell BK166.out 3).trans rfl, (blk_cell BK166.out 4).trans rfl, (blk_cell BK162.out 0).trans rfl, (blk_cell BK162.out 1).trans rfl, (blk_cell BK162.out 2).trans rfl, (blk_cell BK162.out 3).trans rfl, (blk_cell BK162.out 4).trans rfl⟩ (fun hHeld => ?_)
                    clear hK K
                    refine norm_ (a' := ?_) ?_ ?_
                    rotate_left
                    ·show Act.put _ (some 47) _ = _
                     simp only [Act.put, List.setIfInBounds_toArray, List.set_cons_zero, List.set_cons_succ, i64_w, i32_w]
                     rfl
                    refine pure_ (i := 7) (N := some 48) (v := ?_) (a' := ?_) #[true, true, true, true, true, true, true, true, false] rfl rfl (any_of HT_.out (by kernel_rfl)) (fun _ _ _ h => h) (Or.inl ⟨by rfl, ?_⟩) ?_ ?_
                    rotate_left
                    ·intro w'
                     go_simp
                     with_reducible rfl
                    rotate_left
                    ·simp only [Act.put, List.setIfInBounds_toArray, List.set_cons_zero, List.set_cons_succ, i64_w, i32_w]
                     rfl
                    refine last_ (i := 8) (N := none) #[true, true, true, true, true, true, true, true, true] rfl rfl (one_of HT_.out (by kernel_rfl)) (by decide) (fun K hK => ?_)
                    have hs56 : w54.cell? ⟨gb166, 2, none⟩ = some (.slice none 0 0) := (blk_cell BK166.out 2).trans rfl
                    have hfs56 := blk_frozen BK166.out 2
                    have hns56_0 := NB162_166.out
                    have hns56_1 := NB163_166.out
                    have hms56_0 := NB166_162.out
                    have hms56_1 := NB166_163.out
                    refine skip_ (w1 := ?_) (by rfl) rfl ?_ ?_
                    rotate_left
                    ·go_simp
                     rfl
                    refine hK.out _ _ ?_
                    clear hK K
                    refine done_ (done_of HT_.out (by kernel_rfl)) ?_
                    have hcz57_0 : w54.cell? ⟨gb166, 0, none⟩ = some (.slice Ao43 y168.length co43) := (blk_cell BK166.out 0).trans rfl
                    have hcz57_1 : w54.cell? ⟨gb166, 1, none⟩ = some (.slice Ao49 y172.length co49) := (blk_cell BK166.out 1).trans rfl
                    have hcz57_2 : w54.cell? ⟨gb166, 2, none⟩ = some (.slice none 0 0) := (blk_cell BK166.out 2).trans rfl
                    have hcz57_3 : w54.cell? ⟨gb166, 3, none⟩ = some (.slice none 0 0) := (blk_cell BK166.out 3).trans rfl
                    have hcz57_4 : w54.cell? ⟨gb166, 4, none⟩ = some (.slice none 0 0) := (blk_cell BK166.out 4).trans rfl
                    have hfz57_0 := blk_frozen BK166.out 0
                    have hfz57_1 := blk_frozen BK166.out 1
                    have hfz57_2 := blk_frozen BK166.out 2
                    have hfz57_3 := blk_frozen BK166.out 3
                    have hfz57_4 := blk_frozen BK166.out 4
                    try go_wp2_with (first | ((with_reducible refine gate_builtin (b := .append) (xs := #[.tmp 50, .tmp 52]) rfl ?_); at_builtin; refine Kd.R_append Kd.string (w0 := w) w.heap.size rfl (.tmp 50) (.tmp 52) 25 9 (.string ⟨#[]⟩) 16 rfl Try.underlying25 info9 rfl (by decide) (by omega) (.slice Ao43 y168.length co43) y168 a1 [.string a1] (fun _ => True) (fun _ => False) rfl (by first | (go_simp; done) | (go_simp; rfl)) ?aP (fun _ hk => hk.elim) ?aF ?aO ?aB ?aS ?aL ?_; (case aP => exact rfl); (case aB => exact (by repeat (first | (with_reducible first | exact HB.out | apply below_alloc | apply pw_below_drewN | apply below_drew1 | refine below_set ?_ GE162.out | refine below_set ?_ GE163.out | refine below_set ?_ GE166.out) | exact HB.out))); (case aF => exact (fun _ _ => trivial)); (case aO => exact (by (with_reducible repeat (first | apply Kd.R_alloc | apply Kd.R_drewN | apply Kd.R_drew)); exact Kd.R_mono (Kd.R_far (p := ⟨gb166, 2, none⟩) (Kd.R_types HO170.out BK166.out (by decide)) (fun _ hk => hk.2) (.slice Ao55 y176.length co55)) (fun _ hk => trivial))); (case aS => exact (below_size (by repeat (first | (with_reducible first | exact HB.out | apply below_alloc | apply pw_below_drewN | apply below_drew1 | refine below_set ?_ GE162.out | refine below_set ?_ GE163.out | refine below_set ?_ GE166.out) | exact HB.out)))); (case aL => have := LMc15.out; omega); intro v180 w58 ho hb hg hat; rw [← Ny179.out] at ho; have n0_ := Aside0.mk (blk_grown (g := gb162) (o := .cells #[.slice A0_0 l0_0.length c0_0, .slice A0_1 l0_1.length c0_1, .slice A0_2 l0_2.length c0_2, .slice A0_3 l0_3.length c0_3, .slice A0_4 l0_4.length c0_4] 28 (0, 0)) (by (with_reducible repeat (first | refine blk_drewN ?_ _ | refine blk_drew ?_ | refine blk_alloc ?_ _)); refine blk_far ?_ NB162_166.out _; (with_reducible repeat (first | refine blk_drewN ?_ _ | refine blk_drew ?_ | refine blk_alloc ?_ _)); exact BK162.out) hg (Kd.R_ne HO170.out BK162.out (by decide))); have n1_ := Aside0.mk (blk_grown (g := gb163) (o := .cells #[.slice none 0 0, .slice none 0 0, .slice none 0 0, .slice none 0 0, .slice none 0 0] 28 (0, 0)) (by (with_reducible repeat (first | refine blk_drewN ?_ _ | refine blk_drew ?_ | refine blk_alloc ?_ _)); refine blk_far ?_ NB163_166.out _; (with_reducible repeat (first | refine blk_drewN ?_ _ | refine blk_drew ?_ | refine blk_alloc ?_ _)); exact BK163.out) hg (Kd.R_ne HO170.out BK163.out (by decide))); have n2_ := Aside0.mk (blk_grown (g := gb166) (o := .cells #[.slice Ao43 y168.length co43, .slice Ao49 y172.length co49, .slice Ao55 y176.length co55, .slice none 0 0, .slice none 0 0] 28 (0, 0)) (by (with_reducible repeat (first | refine blk_drewN ?_ _ | refine blk_drew ?_ | refine blk_alloc ?_ _)); refine blk_put (cs := #[.slice Ao43 y168.length co43, .slice Ao49 y172.length co49, .slice none 0 0, .slice none 0 0, .slice none 0 0]) ?_ 2 _ rfl; (with_reducible repeat (first | refine blk_drewN ?_ _ | refine blk_drew ?_ | refine blk_alloc ?_ _)); exact BK166.out) hg (Kd.R_ne HO170.out BK166.out (by decide))); have n3_ := Aside0.mk (Kd.R_over' (by (with_reducible repeat (first | apply Kd.R_alloc | apply Kd.R_drewN | apply Kd.R_drew)); exact (Kd.R_mono (Kd.R_far (p := ⟨gb166, 2, none⟩) (Kd.R_types HO174.out BK166.out (by decide)) (fun _ hk => hk.2) (.slice Ao55 y176.length co55)) (fun _ h_ => h_.1))) (Kd.R_typed (by (with_reducible repeat (first | apply Kd.R_alloc | apply Kd.R_drewN | apply Kd.R_drew)); exact (Kd.R_mono (Kd.R_far (p := ⟨gb166, 2, none⟩) (Kd.R_types HO170.out BK166.out (by decide)) (fun _ hk => hk.2) (.slice Ao55 y176.length co55)) (fun _ h_ => h_.1)))) (by decide) hg); have n4_ := Aside0.mk (Kd.R_over' (by (with_reducible repeat (first | apply Kd.R_alloc | apply Kd.R_drewN | apply Kd.R_drew)); exact (Kd.R_mono (Kd.R_far (p := ⟨gb166, 2, none⟩) (Kd.R_types HO178.out BK166.out (by decide)) (fun _ hk => hk.2) (.slice Ao55 y176.length co55)) (fun _ h_ => h_.1))) (Kd.R_typed (by (with_reducible repeat (first | apply Kd.R_alloc | apply Kd.R_drewN | apply Kd.R_drew)); exact (Kd.R_mono (Kd.R_far (p := ⟨gb166, 2, none⟩) (Kd.R_types HO170.out BK166.out (by decide)) (fun _ hk => hk.2) (.slice Ao55 y176.length co55)) (fun _ h_ => h_.1)))) (by decide) hg); have n5_ := Aside0.mk (hb); have n6_ := Aside0.mk (ho); clear BK162; clear BK163; clear BK166; clear HO174; clear HO178; clear HB; clear HO170; have BK162 := n0_; have BK163 := n1_; have BK166 := n2_; have HO174 := n3_; have HO178 := n4_; have HB := n5_; have HO181 := n6_; clear n0_ n1_ n2_ n3_ n4_ n5_ n6_; clear ho hb hg hat; obtain ⟨Ao59, co59, eo59⟩ := Kd.R_slice HO181.out; subst eo59; have hcz60_0 : w58.cell? ⟨gb166, 0, none⟩ = some (.slice Ao43 y168.length co43) := (blk_cell BK166.out 0).trans rfl; have hcz60_1 : w58.cell? ⟨gb166, 1, none⟩ = some (.slice Ao49 y172.length co49) := (blk_cell BK166.out 1).trans rfl; have hcz60_2 : w58.cell? ⟨gb166, 2, none⟩ = some (.slice Ao55 y176.length co55) := (blk_cell BK166.out 2).trans rfl; have hcz60_3 : w58.cell? ⟨gb166, 3, none⟩ = some (.slice none 0 0) := (blk_cell BK166.out 3).trans rfl; have hcz60_4 : w58.cell? ⟨gb166, 4, none⟩ = some (.slice none 0 0) := (blk_cell BK166.out 4).trans rfl; have hfz60_0 := blk_frozen BK166.out 0; have hfz60_1 := blk_frozen BK166.out 1; have hfz60_2 := blk_frozen BK166.out 2; have hfz60_3 := blk_frozen BK166.out 3; have hfz60_4 := blk_frozen BK166.out 4) | ((with_reducible refine gate_builtin (b := .append) (xs := #[.tmp 56, .tmp 58]) rfl ?_); at_builtin; refine Kd.R_append (Kd.int .i64) (w0 := w) w.heap.size rfl (.tmp 56) (.tmp 58) 26 3 (.int .i64 0) 8 rfl Try.underlying26 info3 rfl (by decide) (by omega) (.slice Ao49 y172.length co49) y172 a2 [.int .i64 a2] (fun k_ => some k_ ≠ (.slice Ao55 y176.length co55 : Value).ownBlock) (fun _ => False) rfl (by first | (go_simp; done) | (go_simp; rfl)) ?aP (fun _ hk => hk.elim) ?aF ?aO ?aB ?aS ?aL ?_; (case aP => exact rfl); (case aB => exact (by repeat (first | (with_reducible first | exact HB.out | apply below_alloc | apply pw_below_drewN | apply below_drew1 | refine below_set ?_ GE162.out | refine below_set ?_ GE163.out | refine below_set ?_ GE166.out) | exact HB.out))); (case aF => exact (fun k_ hk => Kd.fresh' (Kd.R_lt (by (with_reducible repeat (first | apply Kd.R_alloc | apply Kd.R_drewN | apply Kd.R_drew)); exact (Kd.R_mono (Kd.R_far (p := ⟨gb166, 0, none⟩) (Kd.R_types HO178.out BK166.out (by decide)) (fun _ hk => hk.2) (.slice Ao59 y179.length co59)) (fun _ h_ => h_.1)))) k_ hk)); (case aO => exact (by (with_reducible repeat (first | apply Kd.R_alloc | apply Kd.R_drewN | apply Kd.R_drew)); exact Kd.R_mono (Kd.R_far (p := ⟨gb166, 0, none⟩) (Kd.R_types HO174.out BK166.out (by decide)) (fun _ hk => hk.2) (.slice Ao59 y179.length co59)) (fun _ hk => hk.1.2))); (case aS => exact (below_size (by repeat (first | (with_reducible first | exact HB.out | apply below_alloc | apply pw_below_drewN | apply below_drew1 | refine below_set ?_ GE162.out | refine below_set ?_ GE163.out | refine below_set ?_ GE166.out) | exact HB.out)))); (case aL => have := LMc16.out; omega); intro v183 w61 ho hb hg hat; rw [← Ny182.out] at ho; have n0_ := Aside0.mk (blk_grown (g := gb162) (o := .cells #[.slice A0_0 l0_0.length c0_0, .slice A0_1 l0_1.length c0_1, .slice A0_2 l0_2.length c0_2, .slice A0_3 l0_3.length c0_3, .slice A0_4 l0_4.length c0_4] 28 (0, 0)) (by (with_reducible repeat (first | refine blk_drewN ?_ _ | refine blk_drew ?_ | refine blk_alloc ?_ _)); refine blk_far ?_ NB162_166.out _; (with_reducible repeat (first | refine blk_drewN ?_ _ | refine blk_drew ?_ | refine blk_alloc ?_ _)); exact BK162.out) hg (Kd.R_ne HO174.out BK162.out (by decide))); have n1_ := Aside0.mk (blk_grown (g := gb163) (o := .cells #[.slice none 0 0, .slice none 0 0, .slice none 0 0, .slice none 0 0, .slice none 0 0] 28 (0, 0)) (by (with_reducible repeat (first | refine blk_drewN ?_ _ | refine blk_drew ?_ | refine blk_alloc ?_ _)); refine blk_far ?_ NB163_166.out _; (with_reducible repeat (first | refine blk_drewN ?_ _ | refine blk_drew ?_ | refine blk_alloc ?_ _)); exact BK163.out) hg (Kd.R_ne HO174.out BK163.out (by decide))); have n2_ := Aside0.mk (blk_grown (g := gb166) (o := .cells #[.slice Ao59 y179.length co59, .slice Ao49 y172.length co49, .slice Ao55 y176.length co55, .slice none 0 0, .slice none 0 0] 28 (0, 0)) (by (with_reducible repeat (first | refine blk_drewN ?_ _ | refine blk_drew ?_ | refine blk_alloc ?_ _)); refine blk_put (cs := #[.slice Ao43 y168.length co43, .slice Ao49 y172.length co49, .slice Ao55 y176.length co55, .slice none 0 0, .slice none 0 0]) ?_ 0 _ rfl; (with_reducible repeat (first | refine blk_drewN ?_ _ | refine blk_drew ?_ | refine blk_alloc ?_ _)); exact BK166.out) hg (Kd.R_ne HO174.out BK166.out (by decide))); have n3_ := Aside0.mk (Kd.R_after (ok := (fun _ => True)) (by (with_reducible repeat (first | apply Kd.R_alloc | apply Kd.R_drewN | apply Kd.R_drew)); exact Kd.R_mono (Kd.R_far (p := ⟨gb166, 0, none⟩) (Kd.R_types HO178.out BK166.out (by decide)) (fun _ hk => hk.2) (.slice Ao59 y179.length co59)) (fun _ hk => ⟨trivial, hk.1⟩)) hg hat); have n4_ := Aside0.mk (Kd.R_over' (by (with_reducible repeat (first | apply Kd.R_alloc | apply Kd.R_drewN | apply Kd.R_drew)); exact (Kd.R_mono (Kd.R_far (p := ⟨gb166, 0, none⟩) (Kd.R_types HO181.out BK166.out (by decide)) (fun _ hk => hk.2) (.slice Ao59 y179.length co59)) (fun _ h_ => h_.1))) (Kd.R_typed (by (with_reducible repeat (first | apply Kd.R_alloc | apply Kd.R_drewN | apply Kd.R_drew)); exact (Kd.R_mono (Kd.R_far (p := ⟨gb166, 0, none⟩) (Kd.R_types HO174.out BK166.out (by decide)) (fun _ hk => hk.2) (.slice Ao59 y179.length co59)) (fun _ h_ => h_.1)))) (by decide) hg); have n5_ := Aside0.mk (hb); have n6_ := Aside0.mk (ho); clear BK162; clear BK163; clear BK166; clear HO178; clear HO181; clear HB; clear HO174; have BK162 := n0_; have BK163 := n1_; have BK166 := n2_; have HO178 := n3_; have HO181 := n4_; have HB := n5_; have HO184 := n6_; clear n0_ n1_ n2_ n3_ n4_ n5_ n6_; clear ho hb hg hat; obtain ⟨Ao62, co62, eo62⟩ := Kd.R_slice HO184.out; subst eo62; have hcz63_0 : w61.cell? ⟨gb166, 0, none⟩ = some (.slice Ao59 y179.length co59) := (blk_cell BK166.out 0).trans rfl; have hcz63_1 : w61.cell? ⟨gb166, 1, none⟩ = some (.slice Ao49 y172.length co49) := (blk_cell BK166.out 1).trans rfl; have hcz63_2 : w61.cell? ⟨gb166, 2, none⟩ = some (.slice Ao55 y176.length co55) := (blk_cell BK166.out 2).trans rfl; have hcz63_3 : w61.cell? ⟨gb166, 3, none⟩ = some (.slice none 0 0) := (blk_cell BK166.out 3).trans rfl; have hcz63_4 : w61.cell? ⟨gb166, 4, none⟩ = some (.slice none 0 0) := (blk_cell BK166.out 4).trans rfl; have hfz63_0 := blk_frozen BK166.out 0; have hfz63_1 := blk_frozen BK166.out 1; have hfz63_2 := blk_frozen BK166.out 2; have hfz63_3 := blk_frozen BK166.out 3; have hfz63_4 := blk_frozen BK166.out 4) | ((with_reducible refine gate_builtin (b := .append) (xs := #[.tmp 62, .tmp 64]) rfl ?_); at_builtin; refine Kd.R_append (Kd.int .i64) (w0 := w) w.heap.size rfl (.tmp 62) (.tmp 64) 26 3 (.int .i64 0) 8 rfl Try.underlying26 info3 rfl (by decide) (by omega) (.slice Ao55 y176.length co55) y176 a3 [.int .i64 a3] (fun k_ => some k_ ≠ (.slice Ao62 y182.length co62 : Value).ownBlock) (fun _ => False) rfl (by first | (go_simp; done) | (go_simp; rfl)) ?aP (fun _ hk => hk.elim) ?aF ?aO ?aB ?aS ?aL ?_; (case aP => exact rfl); (case aB => exact (by repeat (first | (with_reducible first | exact HB.out | apply below_alloc | apply pw_below_drewN | apply below_drew1 | refine below_set ?_ GE162.out | refine below_set ?_ GE163.out | refine below_set ?_ GE166.out) | exact HB.out))); (case aF => exact (fun k_ hk => Kd.fresh' (Kd.R_lt (by (with_reducible repeat (first | apply Kd.R_alloc | apply Kd.R_drewN | apply Kd.R_drew)); exact (Kd.R_mono (Kd.R_far (p := ⟨gb166, 1, none⟩) (Kd.R_types HO184.out BK166.out (by decide)) (fun _ hk => hk.2) (.slice Ao62 y182.length co62)) (fun _ h_ => h_.1)))) k_ hk)); (case aO => exact (by (with_reducible repeat (first | apply Kd.R_alloc | apply Kd.R_drewN | apply Kd.R_drew)); exact Kd.R_mono (Kd.R_far (p := ⟨gb166, 1, none⟩) (Kd.R_types HO178.out BK166.out (by decide)) (fun _ hk => hk.2) (.slice Ao62 y182.length co62)) (fun _ hk => hk.1.2))); (case aS => exact (below_size (by repeat (first | (with_reducible first | exact HB.out | apply below_alloc | apply pw_below_drewN | apply below_drew1 | refine below_set ?_ GE162.out | refine below_set ?_ GE163.out | refine below_set ?_ GE166.out) | exact HB.out)))); (case aL => have := LMc17.out; omega); intro v186 w64 ho hb hg hat; rw [← Ny185.out] at ho; have n0_ := Aside0.mk (blk_grown (g := gb162) (o := .cells #[.slice A0_0 l0_0.length c0_0, .slice A0_1 l0_1.length c0_1, .slice A0_2 l0_2.length c0_2, .slice A0_3 l0_3.length c0_3, .slice A0_4 l0_4.length c0_4] 28 (0, 0)) (by (with_reducible repeat (first | refine blk_drewN ?_ _ | refine blk_drew ?_ | refine blk_alloc ?_ _)); refine blk_far ?_ NB162_166.out _; (with_reducible repeat (first | refine blk_drewN ?_ _ | refine blk_drew ?_ | refine blk_alloc ?_ _)); exact BK162.out) hg (Kd.R_ne HO178.out BK162.out (by decide))); have n1_ := Aside0.mk (blk_grown (g := gb163) (o := .cells #[.slice none 0 0, .slice none 0 0, .slice none 0 0, .slice none 0 0, .slice none 0 0] 28 (0, 0)) (by (with_reducible repeat (first | refine blk_drewN ?_ _ | refine blk_drew ?_ | refine blk_alloc ?_ _)); refine blk_far ?_ NB163_166.out _; (with_reducible repeat (first | refine blk_drewN ?_ _ | refine blk_drew ?_ | refine blk_alloc ?_ _)); exact BK163.out) hg (Kd.R_ne HO178.out BK163.out (by decide))); have n2_ := Aside0.mk (blk_grown (g := gb166) (o := .cells #[.slice Ao59 y179.length co59, .slice Ao62 y182.length co62, .slice Ao55 y176.length co55, .slice none 0 0, .slice none 0 0] 28 (0, 0)) (by (with_reducible repeat (first | refine blk_drewN ?_ _ | refine blk_drew ?_ | refine blk_alloc ?_ _)); refine blk_put (cs := #[.slice Ao59 y179.length co59, .slice Ao49 y172.length co49, .slice Ao55 y176.length co55, .slice none 0 0, .slice none 0 0]) ?_ 1 _ rfl; (with_reducible repeat (first | refine blk_drewN ?_ _ | refine blk_drew ?_ | refine blk_alloc ?_ _)); exact BK166.out) hg (Kd.R_ne HO178.out BK166.out (by decide))); have n3_ := Aside0.mk (Kd.R_over' (by (with_reducible repeat (first | apply Kd.R_alloc | apply Kd.R_drewN | apply Kd.R_drew)); exact (Kd.R_mono (Kd.R_far (p := ⟨gb166, 1, none⟩) (Kd.R_types HO181.out BK166.out (by decide)) (fun _ hk => hk.2) (.slice Ao62 y182.length co62)) (fun _ h_ => h_.1))) (Kd.R_typed (by (with_reducible repeat (first | apply Kd.R_alloc | apply Kd.R_drewN | apply Kd.R_drew)); exact (Kd.R_mono (Kd.R_far (p := ⟨gb166, 1, none⟩) (Kd.R_types HO178.out BK166.out (by decide)) (fun _ hk => hk.2) (.slice Ao62 y182.length co62)) (fun _ h_ => h_.1)))) (by decide) hg); have n4_ := Aside0.mk (Kd.R_after (ok := (fun _ => True)) (by (with_reducible repeat (first | apply Kd.R_alloc | apply Kd.R_drewN | apply Kd.R_drew)); exact Kd.R_mono (Kd.R_far (p := ⟨gb166, 1, none⟩) (Kd.R_types HO184.out BK166.out (by decide)) (fun _ hk => hk.2) (.slice Ao62 y182.length co62)) (fun _ hk => ⟨trivial, hk.1⟩)) hg hat); have n5_ := Aside0.mk (hb); have n6_ := Aside0.mk (ho); clear BK162; clear BK163; clear BK166; clear HO181; clear HO184; clear HB; clear HO178; have BK162 := n0_; have BK163 := n1_; have BK166 := n2_; have HO181 := n3_; have HO184 := n4_; have HB := n5_; have HO187 := n6_; clear n0_ n1_ n2_ n3_ n4_ n5_ n6_; clear ho hb hg hat; obtain ⟨Ao65, co65, eo65⟩ := Kd.R_slice HO187.out; subst eo65; have hcz66_0 : w64.cell? ⟨gb166, 0, none⟩ = some (.slice Ao59 y179.length co59) := (blk_cell BK166.out 0).trans rfl; have hcz66_1 : w64.cell? ⟨gb166, 1, none⟩ = some (.slice Ao62 y182.length co62) := (blk_cell BK166.out 1).trans rfl; have hcz66_2 : w64.cell? ⟨gb166, 2, none⟩ = some (.slice Ao55 y176.length co55) := (blk_cell BK166.out 2).trans rfl; have hcz66_3 : w64.cell? ⟨gb166, 3, none⟩ = some (.slice none 0 0) := (blk_cell BK166.out 3).trans rfl; have hcz66_4 : w64.cell? ⟨gb166, 4, none⟩ = some (.slice none 0 0) := (blk_cell BK166.out 4).trans rfl; have hfz66_0 := blk_frozen BK166.out 0; have hfz66_1 := blk_frozen BK166.out 1; have hfz66_2 := blk_frozen BK166.out 2; have hfz66_3 := blk_frozen BK166.out 3; have hfz66_4 := blk_frozen BK166.out 4; have hcz67_0 : w64.cell? ⟨gb162, 0, none⟩ = some (.slice A0_0 l0_0.length c0_0) := (blk_cell BK162.out 0).trans rfl; have hcz67_1 : w64.cell? ⟨gb162, 1, none⟩ = some (.slice A0_1 l0_1.length c0_1) := (blk_cell BK162.out 1).trans rfl; have hcz67_2 : w64.cell? ⟨gb162, 2, none⟩ = some (.slice A0_2 l0_2.length c0_2) := (blk_cell BK162.out 2).trans rfl; have hcz67_3 : w64.cell? ⟨gb162, 3, none⟩ = some (.slice A0_3 l0_3.length c0_3) := (blk_cell BK162.out 3).trans rfl; have hcz67_4 : w64.cell? ⟨gb162, 4, none⟩ = some (.slice A0_4 l0_4.length c0_4) := (blk_cell BK162.out 4).trans rfl; have hfz67_0 := blk_frozen BK162.out 0; have hfz67_1 := blk_frozen BK162.out 1; have hfz67_2 := blk_frozen BK162.out 2; have hfz67_3 := blk_frozen BK162.out 3; have hfz67_4 := blk_frozen BK162.out 4; have p188 : 0 ≤ (t164 : Int) := of_decide_eq_true (by first | (with_reducible assumption) | assumption); have q188 : t164 < (l0_1.length : Int) := of_decide_eq_true (by first | (with_reducible assumption) | assumption); obtain ⟨ad188, e188, hx188_0⟩ := Kd.at_int HR0_1.out t164 p188 q188; cases e188; have hn188_0 : ad188.block ≠ gb166 := Nat.ne_of_lt (Nat.lt_of_lt_of_le (by have := World.block_lt_of_cell? _ _ hx188_0; first | rwa [add_block] at this | exact this) GW166.out); replace hx188_0 := (HB.out.cell (World.block_lt_of_cell? w _ hx188_0)).trans hx188_0; replace hx188_0 := (cell_far (p := ⟨gb166, 2, none⟩) (by first | (rw [add_block]; exact hn188_0) | (show (Addr.add _ _).block ≠ _; rw [add_block]; exact hn188_0) | exact hn188_0) (.slice Ao65 y185.length co65)).trans hx188_0; clear hn188_0; replace p188 := eq_true p188; replace q188 := eq_true q188))
                    have n0_ : Aside0 (Kd.R Kd.string 9 (w64.setCell ⟨gb166, 2, none⟩ (.slice Ao65 y185.length co65)) w.heap.size (fun _ => True) (.slice Ao59 y179.length co59) y179) := ⟨by (with_reducible repeat (first | apply Kd.R_alloc | apply Kd.R_drewN | apply Kd.R_drew)); exact Kd.R_mono (Kd.R_far (p := ⟨gb166, 2, none⟩) (Kd.R_types HO181.out BK166.out (by decide)) (fun _ hk => hk.2) (.slice Ao65 y185.length co65)) (fun _ hk => trivial)⟩
                    have n1_ : Aside0 (Kd.R (Kd.int .i64) 3 (w64.setCell ⟨gb166, 2, none⟩ (.slice Ao65 y185.length co65)) w.heap.size (fun k_ => some k_ ≠ (.slice Ao65 y185.length co65 : Value).ownBlock) (.slice Ao62 y182.length co62) y182) := ⟨by (with_reducible repeat (first | apply Kd.R_alloc | apply Kd.R_drewN | apply Kd.R_drew)); exact Kd.R_mono (Kd.R_far (p := ⟨gb166, 2, none⟩) (Kd.R_types HO184.out BK166.out (by decide)) (fun _ hk => hk.2) (.slice Ao65 y185.length co65)) (fun _ hk => hk.1.2)⟩
                    have n2_ : Aside0 (Kd.R (Kd.int .i64) 3 (w64.setCell ⟨gb166, 2, none⟩ (.slice Ao65 y185.length co65)) w.heap.size (fun k_ => some k_ ≠ (.slice Ao62 y182.length co62 : Value).ownBlock) (.slice Ao65 y185.length co65) y185) := ⟨by (with_reducible repeat (first | apply Kd.R_alloc | apply Kd.R_drewN | apply Kd.R_drew)); exact Kd.R_mono (Kd.R_far (p := ⟨gb166, 2, none⟩) (Kd.R_types HO187.out BK166.out (by decide)) (fun _ hk => hk.2) (.slice Ao65 y185.length co65)) (fun _ hk => hk.1)⟩
                    have n3_ : Aside0 ((w64.setCell ⟨gb166, 2, none⟩ (.slice Ao65 y185.length co65)).heap[gb162]? = some (.cells #[.slice A0_0 l0_0.length c0_0, .slice (some ad188) l0_1.length c0_1, .slice A0_2 l0_2.length c0_2, .slice A0_3 l0_3.length c0_3, .slice A0_4 l0_4.length c0_4] 28 (0, 0))) := ⟨by (with_reducible repeat (first | refine blk_drewN ?_ _ | refine blk_drew ?_ | refine blk_alloc ?_ _)); refine blk_far ?_ NB162_166.out _; (with_reducible repeat (first | refine blk_drewN ?_ _ | refine blk_drew ?_ | refine blk_alloc ?_ _)); exact BK162.out⟩
                    have n4_ : Aside0 ((w64.setCell ⟨gb166, 2, none⟩ (.slice Ao65 y185.length co65)).heap[gb163]? = some (.cells #[.slice none 0 0, .slice none 0 0, .slice none 0 0, .slice none 0 0, .slice none 0 0] 28 (0, 0))) := ⟨by (with_reducible repeat (first | refine blk_drewN ?_ _ | refine blk_drew ?_ | refine blk_alloc ?_ _)); refine blk_far ?_ NB163_166.out _; (with_reducible repeat (first | refine blk_drewN ?_ _ | refine blk_drew ?_ | refine blk_alloc ?_ _)); exact BK163.out⟩
                    have n5_ : Aside0 ((w64.setCell ⟨gb166, 2, none⟩ (.slice Ao65 y185.length co65)).heap[gb166]? = some (.cells #[.slice Ao59 y179.length co59, .slice Ao62 y182.length co62, .slice Ao65 y185.length co65, .slice none 0 0, .slice none 0 0] 28 (0, 0))) := ⟨by (with_reducible repeat (first | refine blk_drewN ?_ _ | refine blk_drew ?_ | refine blk_alloc ?_ _)); refine blk_put (cs := #[.slice Ao59 y179.length co59, .slice Ao62 y182.length co62, .slice Ao55 y176.length co55, .slice none 0 0, .slice none 0 0]) ?_ 2 _ rfl; (with_reducible repeat (first | refine blk_drewN ?_ _ | refine blk_drew ?_ | refine blk_alloc ?_ _)); exact BK166.out⟩
                    have n6_ : Aside0 (Below w.heap.size w (w64.setCell ⟨gb166, 2, none⟩ (.slice Ao65 y185.length co65))) := ⟨by repeat (first | (with_reducible first | exact HB.out | apply below_alloc | apply pw_below_drewN | apply below_drew1 | refine below_set ?_ GE162.out | refine below_set ?_ GE163.out | refine below_set ?_ GE166.out) | exact HB.out)⟩
                    (try clear HO181)
                    (try clear HO184)
                    (try clear HO187)
                    (try clear BK162)
                    (try clear BK163)
                    (try clear BK166)
                    (try clear HB)
                    generalize (w64.setCell ⟨gb166, 2, none⟩ (.slice Ao65 y185.length co65)) = w68 at n0_ n1_ n2_ n3_ n4_ n5_ n6_ ⊢
                    have HO181 := n0_
                    have HO184 := n1_
                    have HO187 := n2_
                    have BK162 := n3_
                    have BK163 := n4_
                    have BK166 := n5_
                    have HB := n6_
                    clear n0_ n1_ n2_ n3_ n4_ n5_ n6_
                    have n0_ := Aside0.mk (Kd.R_drew HO181.out)
                    have n1_ := Aside0.mk (Kd.R_drew HO184.out)
                    have n2_ := Aside0.mk (Kd.R_drew HO187.out)
                    have n3_ := Aside0.mk (blk_drew BK162.out)
                    have n4_ := Aside0.mk (blk_drew BK163.out)
                    have n5_ := Aside0.mk (blk_drew BK166.out)
                    have n6_ := Aside0.mk (below_drew1 HB.out)
                    clear HO181
                    clear HO184
                    clear HO187
                    clear BK162
                    clear BK163
                    clear BK166
                    clear HB
                    have HO181 := n0_
                    have HO184 := n1_
                    have HO187 := n2_
                    have BK162 := n3_
                    have BK163 := n4_
                    have BK166 := n5_
                    have HB := n6_
                    clear n0_ n1_ n2_ n3_ n4_ n5_ n6_
                    obtain ⟨i070, hi070, _, hsz70, _⟩ := info_parts info9
                    obtain ⟨A70, hcut70, hA70, hC70⟩ := print_drop_of (P := Try.prog) Value.string (⟨#[]⟩ : ByteArray) 25 9 .i64 Try.underlying25 hi070 hsz70 A0_0 c0_0 l0_0 (ji20) (of_decide_eq_true (by first | (with_reducible assumption) | assumption)) (of_decide_eq_true (by first | (with_reducible assumption) | assumption)) HC0_0.out
                    have HR189 := Aside0.mk (Kd.C_of_reads (h1 := fun _ => rfl) (hA70 _ (Kd.reads_of_C HR0_0.out)))
                    have HC189 := Aside0.mk hC70
                    clear hA70 hC70 hi070 hsz70
                    refine start_ (n := 9) (S := fun w' => w'.cell? ⟨gb166, 0, none⟩ = some (.slice Ao59 y179.length co59) ∧ w'.cell? ⟨gb166, 1, none⟩ = some (.slice Ao62 y182.length co62) ∧ w'.cell? ⟨gb166, 2, none⟩ = some (.slice Ao65 y185.length co65) ∧ w'.cell? ⟨gb166, 3, none⟩ = some (.slice none 0 0) ∧ w'.cell? ⟨gb166, 4, none⟩ = some (.slice none 0 0) ∧ w'.cell? ⟨gb162, 0, none⟩ = some (.slice A0_0 l0_0.length c0_0) ∧ w'.cell? ⟨gb162, 1, none⟩ = some (.slice (some ad188) l0_1.length c0_1) ∧ w'.cell? ⟨gb162, 2, none⟩ = some (.slice A0_2 l0_2.length c0_2) ∧ w'.cell? ⟨gb162, 3, none⟩ = some (.slice A0_3 l0_3.length c0_3) ∧ w'.cell? ⟨gb162, 4, none⟩ = some (.slice A0_4 l0_4.length c0_4)) (ds := [8]) #[false, false, false, false, false, false, false, false, false] (by kernel_rfl) rfl rfl ⟨(blk_cell BK166.out 0).trans rfl, (blk_cell BK166.out 1).trans rfl, (blk_cell BK166.out 2).trans rfl, (blk_cell BK166.out 3).trans rfl, (blk_cell BK166.out 4).trans rfl, (blk_cell BK162.out 0).trans rfl, (blk_cell BK162.out 1).trans rfl, (blk_cell BK162.out 2).trans rfl, (blk_cell BK162.out 3).trans rfl, (blk_cell BK162.out 4).trans rfl⟩ (fun hHeld => ?_); refine with_tabW musterref03_Insert.tab14 musterref03_Insert.bits14 (fun HT_ HW_ => ?_)
                    generalize w68.drew = w69 at HO181 HO184 HO187 BK162 BK163 BK166 HB HR189 hHeld ⊢
                    refine pure_ (i := 0) (N := some 76) (v := ?_) (a' := ?_) #[true, false, false, false, false, false, false, false, false] rfl rfl (any_of HT_.out (by kernel_rfl)) (fun _ _ _ h => h) (Or.inl ⟨by rfl, ?_⟩) ?_ ?_
                    rotate_left
                    ·intro w'
                     go_simp
                     with_reducible rfl
                    rotate_left
                    ·simp only [Act.put, List.setIfInBounds_toArray, List.set_cons_zero, List.set_cons_succ, i64_w, i32_w]
                     rfl
                    refine pure_ (i := 2) (N := some 78) (v := ?_) (a' := ?_) #[true, false, true, false, false, false, false, false, false] rfl rfl (any_of HT_.out (by kernel_rfl)) (fun _ _ _ h => h) (Or.inl ⟨by rfl, ?_⟩) ?_ ?_
                    rotate_left
                    ·intro w'
                     go_simp
                     with_reducible rfl
                    rotate_left
                    ·simp only [Act.put, List.setIfInBounds_toArray, List.set_cons_zero, List.set_cons_succ, i64_w, i32_w]
                     rfl
                    refine pure_ (i := 4) (N := some 80) (v := ?_) (a' := ?_) #[true, false, true, false, true, false, false, false, false] rfl rfl (any_of HT_.out (by kernel_rfl)) (fun _ _ _ h => h) (Or.inl ⟨by rfl, ?_⟩) ?_ ?_
                    rotate_left
                    ·intro w'
                     go_simp
                     with_reducible rfl
                    rotate_left
                    ·simp only [Act.put, List.setIfInBounds_toArray, List.set_cons_zero, List.set_cons_succ, i64_w, i32_w]
                     rfl
                    refine take_ (i := 1) (N := some 77) (v := ?_) (a' := ?_) #[true, true, true, false, true, false, false, false, false] rfl rfl (take_ofW HT_.out HW_.out (by kernel_rfl)) (fun _ _ _ h => h) (Or.inl ⟨by rfl, ?_⟩) hHeld ?_ ?_
                    rotate_left
                    ·rintro w' ⟨s0, s1, s2, s3, s4, s5, s6, s7, s8, s9⟩
                     go_simp
                     with_reducible rfl
                    rotate_left
                    ·simp only [Act.put, List.setIfInBounds_toArray, List.set_cons_zero, List.set_cons_succ, i64_w, i32_w]
                     rfl
                    refine take_ (i := 3) (N := some 79) (v := ?_) (a' := ?_) #[true, true, true, true, true, false, false, false, false] rfl rfl (take_ofW HT_.out HW_.out (by kernel_rfl)) (fun _ _ _ h => h) (Or.inl ⟨by rfl, ?_⟩) hHeld ?_ ?_
                    rotate_left
                    ·rintro w' ⟨s0, s1, s2, s3, s4, s5, s6, s7, s8, s9⟩
                     go_simp
                     with_reducible rfl
                    rotate_left
                    ·simp only [Act.put, List.setIfInBounds_toArray, List.set_cons_zero, List.set_cons_succ, i64_w, i32_w]
                     rfl
                    refine pure_ (i := 5) (N := some 81) (v := ?_) (a' := ?_) #[true, true, true, true, true, true, false, false, false] rfl rfl (any_of HT_.out (by kernel_rfl)) (fun _ _ _ h => h) (Or.inl ⟨by rfl, ?_⟩) ?_ ?_
                    rotate_left
                    ·intro w'
                     go_simp
                     with_reducible rfl
                    rotate_left
                    ·simp only [Act.put, List.setIfInBounds_toArray, List.set_cons_zero, List.set_cons_succ, i64_w, i32_w]
                     rfl
                    refine one_ (i := 6) (N := some 82) #[true, true, true, true, true, true, true, false, false] rfl rfl (one_of HT_.out (by kernel_rfl)) (by decide) (fun K hK => ?_)
                    refine Kd.R_append_rows_step Kd.string (w0 := w) w.heap.size (by rfl) (.tmp 77) (.tmp 81) 25 9 (.string ⟨#[]⟩) 16 rfl Try.underlying25 info9 rfl (by decide) (by omega) (.slice Ao59 y179.length co59) y179 (l0_0.drop ((ji20) : Int).toNat) _ _ _ (fun _ => True) (fun _ => False) rfl rfl ?aO ?aR (fun _ _ h => h) (fun _ h => h.elim) ?aF ?aB ?aS ?aL ?_
                    (case aR => first | (have hz_ := (Kd.C_below HR189.out HB.out); rw [show (l0_0.drop ((ji20) : Int).toNat).length = (l0_0.length - (ji20).toNat) from List.length_drop] at hz_; exact hz_) | (rw [← show (l0_0.drop ((ji20) : Int).toNat).length = (l0_0.length - (ji20).toNat) from List.length_drop]; repeat (first | exact (Kd.C_below HR189.out HB.out) | (with_reducible refine Kd.C_alloc ?_ _) | (with_reducible refine Kd.C_drewN ?_ _) | (with_reducible refine Kd.C_drew ?_)); done) | (repeat (first | exact (Kd.C_below HR189.out HB.out) | (with_reducible refine Kd.C_alloc ?_ _) | (with_reducible refine Kd.C_drewN ?_ _) | (with_reducible refine Kd.C_drew ?_))))
                    (case aB => exact (by repeat (first | (with_reducible first | exact HB.out | apply below_alloc | apply pw_below_drewN | apply below_drew1 | refine below_set ?_ GE162.out | refine below_set ?_ GE163.out | refine below_set ?_ GE166.out) | exact HB.out)))
                    (case aF => exact (fun _ _ => trivial))
                    (case aO => exact (by (with_reducible repeat (first | apply Kd.R_alloc | apply Kd.R_drewN | apply Kd.R_drew)); exact HO181.out))
                    (case aS => exact (below_size (by repeat (first | (with_reducible first | exact HB.out | apply below_alloc | apply pw_below_drewN | apply below_drew1 | refine below_set ?_ GE162.out | refine below_set ?_ GE163.out | refine below_set ?_ GE166.out) | exact HB.out))))
                    (case aL => have := LMc23.out; have hlx_ := (show (l0_0.drop ((ji20) : Int).toNat).length = (l0_0.length - (ji20).toNat) from List.length_drop); omega)
                    intro v191 w71 ho hb hg hat
                    rw [← Ny190.out] at ho
                    have n0_ := Aside0.mk (blk_grown (g := gb162) (o := .cells #[.slice A0_0 l0_0.length c0_0, .slice (some ad188) l0_1.length c0_1, .slice A0_2 l0_2.length c0_2, .slice A0_3 l0_3.length c0_3, .slice A0_4 l0_4.length c0_4] 28 (0, 0)) (by (with_reducible repeat (first | refine blk_drewN ?_ _ | refine blk_drew ?_ | refine blk_alloc ?_ _)); exact BK162.out) hg (Kd.R_ne HO181.out BK162.out (by decide)))
                    have n1_ := Aside0.mk (blk_grown (g := gb163) (o := .cells #[.slice none 0 0, .slice none 0 0, .slice none 0 0, .slice none 0 0, .slice none 0 0] 28 (0, 0)) (by (with_reducible repeat (first | refine blk_drewN ?_ _ | refine blk_drew ?_ | refine blk_alloc ?_ _)); exact BK163.out) hg (Kd.R_ne HO181.out BK163.out (by decide)))
                    have n2_ := Aside0.mk (blk_grown (g := gb166) (o := .cells #[.slice Ao59 y179.length co59, .slice Ao62 y182.length co62, .slice Ao65 y185.length co65, .slice none 0 0, .slice none 0 0] 28 (0, 0)) (by (with_reducible repeat (first | refine blk_drewN ?_ _ | refine blk_drew ?_ | refine blk_alloc ?_ _)); exact BK166.out) hg (Kd.R_ne HO181.out BK166.out (by decide)))
                    have n3_ := Aside0.mk (Kd.R_over' (by (with_reducible repeat (first | apply Kd.R_alloc | apply Kd.R_drewN | apply Kd.R_drew)); exact HO184.out) (Kd.R_typed (by (with_reducible repeat (first | apply Kd.R_alloc | apply Kd.R_drewN | apply Kd.R_drew)); exact HO181.out)) (by decide) hg)
                    have n4_ := Aside0.mk (Kd.R_over' (by (with_reducible repeat (first | apply Kd.R_alloc | apply Kd.R_drewN | apply Kd.R_drew)); exact HO187.out) (Kd.R_typed (by (with_reducible repeat (first | apply Kd.R_alloc | apply Kd.R_drewN | apply Kd.R_drew)); exact HO181.out)) (by decide) hg)
                    have n5_ := Aside0.mk (hb)
                    have n6_ := Aside0.mk (ho)
                    clear BK162
                    clear BK163
                    clear BK166
                    clear HO184
                    clear HO187
                    clear HB
                    clear HO181
                    have BK162 := n0_
                    have BK163 := n1_
                    have BK166 := n2_
                    have HO184 := n3_
                    have HO187 := n4_
                    have HB := n5_
                    have HO192 := n6_
                    clear n0_ n1_ n2_ n3_ n4_ n5_ n6_
                    clear ho hb hg hat
                    obtain ⟨Ao72, co72, eo72⟩ := Kd.R_slice HO192.out
                    (first | subst eo72 | (injection eo72 with f1_ f2_ f3_; have f4_ := f1_.symm; have f5_ := f3_.symm; clear f1_ f2_ f3_; subst f4_; subst f5_))
                    refine hK.out _ _ ⟨(blk_cell BK166.out 0).trans rfl, (blk_cell BK166.out 1).trans rfl, (blk_cell BK166.out 2).trans rfl, (blk_cell BK166.out 3).trans rfl, (blk_cell BK166.out 4).trans rfl, (blk_cell BK162.out 0).trans rfl, (blk_cell BK162.out 1).trans rfl, (blk_cell BK162.out 2).trans rfl, (blk_cell BK162.out 3).trans rfl, (blk_cell BK162.out 4).trans rfl⟩ (fun hHeld => ?_)
                    clear hK K
                    refine norm_ (a' := ?_) ?_ ?_
                    rotate_left
                    ·show Act.put _ (some 82) _ = _
                     simp only [Act.put, List.setIfInBounds_toArray, List.set_cons_zero, List.set_cons_succ, i64_w, i32_w]
                     rfl
                    refine pure_ (i := 7) (N := some 83) (v := ?_) (a' := ?_) #[true, true, true, true, true, true, true, true, false] rfl rfl (any_of HT_.out (by kernel_rfl)) (fun _ _ _ h => h) (Or.inl ⟨by rfl, ?_⟩) ?_ ?_
                    rotate_left
                    ·intro w'
                     go_simp
                     with_reducible rfl
                    rotate_left
                    ·simp only [Act.put, List.setIfInBounds_toArray, List.set_cons_zero, List.set_cons_succ, i64_w, i32_w]
                     rfl
                    refine last_ (i := 8) (N := none) #[true, true, true, true, true, true, true, true, true] rfl rfl (one_of HT_.out (by kernel_rfl)) (by decide) (fun K hK => ?_)
                    have hs73 : w71.cell? ⟨gb166, 0, none⟩ = some (.slice Ao59 y179.length co59) := (blk_cell BK166.out 0).trans rfl
                    have hfs73 := blk_frozen BK166.out 0
                    have hns73_0 := NB162_166.out
                    have hns73_1 := NB163_166.out
                    have hms73_0 := NB166_162.out
                    have hms73_1 := NB166_163.out
                    refine skip_ (w1 := ?_) (by rfl) rfl ?_ ?_
                    rotate_left
                    ·go_simp
                     rfl
                    refine hK.out _ _ ?_
                    clear hK K
                    refine done_ (done_of HT_.out (by kernel_rfl)) ?_
                    try go_wp2
                    have n0_ : Aside0 (Kd.R (Kd.int .i64) 3 (w71.setCell ⟨gb166, 0, none⟩ (.slice Ao72 y190.length co72)) w.heap.size (fun k_ => some k_ ≠ (.slice Ao65 y185.length co65 : Value).ownBlock) (.slice Ao62 y182.length co62) y182) := ⟨by (with_reducible repeat (first | apply Kd.R_alloc | apply Kd.R_drewN | apply Kd.R_drew)); exact Kd.R_mono (Kd.R_far (p := ⟨gb166, 0, none⟩) (Kd.R_types HO184.out BK166.out (by decide)) (fun _ hk => hk.2) (.slice Ao72 y190.length co72)) (fun _ hk => hk.1)⟩
                    have n1_ : Aside0 (Kd.R (Kd.int .i64) 3 (w71.setCell ⟨gb166, 0, none⟩ (.slice Ao72 y190.length co72)) w.heap.size (fun k_ => some k_ ≠ (.slice Ao62 y182.length co62 : Value).ownBlock) (.slice Ao65 y185.length co65) y185) := ⟨by (with_reducible repeat (first | apply Kd.R_alloc | apply Kd.R_drewN | apply Kd.R_drew)); exact Kd.R_mono (Kd.R_far (p := ⟨gb166, 0, none⟩) (Kd.R_types HO187.out BK166.out (by decide)) (fun _ hk => hk.2) (.slice Ao72 y190.length co72)) (fun _ hk => hk.1)⟩
                    have n2_ : Aside0 (Kd.R Kd.string 9 (w71.setCell ⟨gb166, 0, none⟩ (.slice Ao72 y190.length co72)) w.heap.size (fun _ => True) (.slice Ao72 y190.length co72) y190) := ⟨by (with_reducible repeat (first | apply Kd.R_alloc | apply Kd.R_drewN | apply Kd.R_drew)); exact Kd.R_mono (Kd.R_far (p := ⟨gb166, 0, none⟩) (Kd.R_types HO192.out BK166.out (by decide)) (fun _ hk => hk.2) (.slice Ao72 y190.length co72)) (fun _ hk => trivial)⟩
                    have n3_ : Aside0 ((w71.setCell ⟨gb166, 0, none⟩ (.slice Ao72 y190.length co72)).heap[gb162]? = some (.cells #[.slice A0_0 l0_0.length c0_0, .slice (some ad188) l0_1.length c0_1, .slice A0_2 l0_2.length c0_2, .slice A0_3 l0_3.length c0_3, .slice A0_4 l0_4.length c0_4] 28 (0, 0))) := ⟨by (with_reducible repeat (first | refine blk_drewN ?_ _ | refine blk_drew ?_ | refine blk_alloc ?_ _)); refine blk_far ?_ NB162_166.out _; (with_reducible repeat (first | refine blk_drewN ?_ _ | refine blk_drew ?_ | refine blk_alloc ?_ _)); exact BK162.out⟩
                    have n4_ : Aside0 ((w71.setCell ⟨gb166, 0, none⟩ (.slice Ao72 y190.length co72)).heap[gb163]? = some (.cells #[.slice none 0 0, .slice none 0 0, .slice none 0 0, .slice none 0 0, .slice none 0 0] 28 (0, 0))) := ⟨by (with_reducible repeat (first | refine blk_drewN ?_ _ | refine blk_drew ?_ | refine blk_alloc ?_ _)); refine blk_far ?_ NB163_166.out _; (with_reducible repeat (first | refine blk_drewN ?_ _ | refine blk_drew ?_ | refine blk_alloc ?_ _)); exact BK163.out⟩
                    have n5_ : Aside0 ((w71.setCell ⟨gb166, 0, none⟩ (.slice Ao72 y190.length co72)).heap[gb166]? = some (.cells #[.slice Ao72 y190.length co72, .slice Ao62 y182.length co62, .slice Ao65 y185.length co65, .slice none 0 0, .slice none 0 0] 28 (0, 0))) := ⟨by (with_reducible repeat (first | refine blk_drewN ?_ _ | refine blk_drew ?_ | refine blk_alloc ?_ _)); refine blk_put (cs := #[.slice Ao59 y179.length co59, .slice Ao62 y182.length co62, .slice Ao65 y185.length co65, .slice none 0 0, .slice none 0 0]) ?_ 0 _ rfl; (with_reducible repeat (first | refine blk_drewN ?_ _ | refine blk_drew ?_ | refine blk_alloc ?_ _)); exact BK166.out⟩
                    have n6_ : Aside0 (Below w.heap.size w (w71.setCell ⟨gb166, 0, none⟩ (.slice Ao72 y190.length co72))) := ⟨by repeat (first | (with_reducible first | exact HB.out | apply below_alloc | apply pw_below_drewN | apply below_drew1 | refine below_set ?_ GE162.out | refine below_set ?_ GE163.out | refine below_set ?_ GE166.out) | exact HB.out)⟩
                    (try clear HO184)
                    (try clear HO187)
                    (try clear HO192)
                    (try clear BK162)
                    (try clear BK163)
                    (try clear BK166)
                    (try clear HB)
                    generalize (w71.setCell ⟨gb166, 0, none⟩ (.slice Ao72 y190.length co72)) = w74 at n0_ n1_ n2_ n3_ n4_ n5_ n6_ ⊢
                    have HO184 := n0_
                    have HO187 := n1_
                    have HO192 := n2_
                    have BK162 := n3_
                    have BK163 := n4_
                    have BK166 := n5_
                    have HB := n6_
                    clear n0_ n1_ n2_ n3_ n4_ n5_ n6_
                    have n0_ := Aside0.mk (Kd.R_drew HO184.out)
                    have n1_ := Aside0.mk (Kd.R_drew HO187.out)
                    have n2_ := Aside0.mk (Kd.R_drew HO192.out)
                    have n3_ := Aside0.mk (blk_drew BK162.out)
                    have n4_ := Aside0.mk (blk_drew BK163.out)
                    have n5_ := Aside0.mk (blk_drew BK166.out)
                    have n6_ := Aside0.mk (below_drew1 HB.out)
                    clear HO184
                    clear HO187
                    clear HO192
                    clear BK162
                    clear BK163
                    clear BK166
                    clear HB
                    have HO184 := n0_
                    have HO187 := n1_
                    have HO192 := n2_
                    have BK162 := n3_
                    have BK163 := n4_
                    have BK166 := n5_
                    have HB := n6_
                    clear n0_ n1_ n2_ n3_ n4_ n5_ n6_
                    obtain ⟨i076, hi076, _, hsz76, _⟩ := info_parts info3
                    obtain ⟨A76, hcut76, hA76, hC76⟩ := print_drop_of (P := Try.prog) (Value.int .i64) 0 26 3 .i64 Try.underlying26 hi076 hsz76 (some ad188) c0_1 l0_1 (ji20) (of_decide_eq_true (by first | (with_reducible assumption) | assumption)) (of_decide_eq_true (by first | (with_reducible assumption) | assumption)) HC0_1.out
                    have HR193 := Aside0.mk (Kd.C_of_reads (h1 := fun _ => rfl) (hA76 _ (Kd.reads_of_C HR0_1.out)))
                    have HC193 := Aside0.mk hC76
                    clear hA76 hC76 hi076 hsz76
                    refine start_ (n := 9) (S := fun w' => w'.cell? ⟨gb166, 0, none⟩ = some (.slice Ao72 y190.length co72) ∧ w'.cell? ⟨gb166, 1, none⟩ = some (.slice Ao62 y182.length co62) ∧ w'.cell? ⟨gb166, 2, none⟩ = some (.slice Ao65 y185.length co65) ∧ w'.cell? ⟨gb166, 3, none⟩ = some (.slice none 0 0) ∧ w'.cell? ⟨gb166, 4, none⟩ = some (.slice none 0 0) ∧ w'.cell? ⟨gb162, 0, none⟩ = some (.slice A0_0 l0_0.length c0_0) ∧ w'.cell? ⟨gb162, 1, none⟩ = some (.slice (some ad188) l0_1.length c0_1) ∧ w'.cell? ⟨gb162, 2, none⟩ = some (.slice A0_2 l0_2.length c0_2) ∧ w'.cell? ⟨gb162, 3, none⟩ = some (.slice A0_3 l0_3.length c0_3) ∧ w'.cell? ⟨gb162, 4, none⟩ = some (.slice A0_4 l0_4.length c0_4)) (ds := [8]) #[false, false, false, false, false, false, false, false, false] (by kernel_rfl) rfl rfl ⟨(blk_cell BK166.out 0).trans rfl, (blk_cell BK166.out 1).trans rfl, (blk_cell BK166.out 2).trans rfl, (blk_cell BK166.out 3).trans rfl, (blk_cell BK166.out 4).trans rfl, (blk_cell BK162.out 0).trans rfl, (blk_cell BK162.out 1).trans rfl, (blk_cell BK162.out 2).trans rfl, (blk_cell BK162.out 3).trans rfl, (blk_cell BK162.out 4).trans rfl⟩ (fun hHeld => ?_); refine with_tabW musterref03_Insert.tab15 musterref03_Insert.bits15 (fun HT_ HW_ => ?_)
                    generalize w74.drew = w75 at HO184 HO187 HO192 BK162 BK163 BK166 HB HR193 hHeld ⊢
                    refine pure_ (i := 0) (N := some 84) (v := ?_) (a' := ?_) #[true, false, false, false, false, false, false, false, false] rfl rfl (any_of HT_.out (by kernel_rfl)) (fun _ _ _ h => h) (Or.inl ⟨by rfl, ?_⟩) ?_ ?_
                    rotate_left
                    ·intro w'
                     go_simp
                     with_reducible rfl
                    rotate_left
                    ·simp only [Act.put, List.setIfInBounds_toArray, List.set_cons_zero, List.set_cons_succ, i64_w, i32_w]
                     rfl
                    refine pure_ (i := 2) (N := some 86) (v := ?_) (a' := ?_) #[true, false, true, false, false, false, false, false, false] rfl rfl (any_of HT_.out (by kernel_rfl)) (fun _ _ _ h => h) (Or.inl ⟨by rfl, ?_⟩) ?_ ?_
                    rotate_left
                    ·intro w'
                     go_simp
                     with_reducible rfl
                    rotate_left
                    ·simp only [Act.put, List.setIfInBounds_toArray, List.set_cons_zero, List.set_cons_succ, i64_w, i32_w]
                     rfl
                    refine pure_ (i := 4) (N := some 88) (v := ?_) (a' := ?_) #[true, false, true, false, true, false, false, false, false] rfl rfl (any_of HT_.out (by kernel_rfl)) (fun _ _ _ h => h) (Or.inl ⟨by rfl, ?_⟩) ?_ ?_
                    rotate_left
                    ·intro w'
                     go_simp
                     with_reducible rfl
                    rotate_left
                    ·simp only [Act.put, List.setIfInBounds_toArray, List.set_cons_zero, List.set_cons_succ, i64_w, i32_w]
                     rfl
                    refine take_ (i := 1) (N := some 85) (v := ?_) (a' := ?_) #[true, true, true, false, true, false, false, false, false] rfl rfl (take_ofW HT_.out HW_.out (by kernel_rfl)) (fun _ _ _ h => h) (Or.inl ⟨by rfl, ?_⟩) hHeld ?_ ?_
                    rotate_left
                    ·rintro w' ⟨s0, s1, s2, s3, s4, s5, s6, s7, s8, s9⟩
                     go_simp
                     with_reducible rfl
                    rotate_left
                    ·simp only [Act.put, List.setIfInBounds_toArray, List.set_cons_zero, List.set_cons_succ, i64_w, i32_w]
                     rfl
                    refine take_ (i := 3) (N := some 87) (v := ?_) (a' := ?_) #[true, true, true, true, true, false, false, false, false] rfl rfl (take_ofW HT_.out HW_.out (by kernel_rfl)) (fun _ _ _ h => h) (Or.inl ⟨by rfl, ?_⟩) hHeld ?_ ?_
                    rotate_left
                    ·rintro w' ⟨s0, s1, s2, s3, s4, s5, s6, s7, s8, s9⟩
                     go_simp
                     with_reducible rfl
                    rotate_left
                    ·simp only [Act.put, List.setIfInBounds_toArray, List.set_cons_zero, List.set_cons_succ, i64_w, i32_w]
                     rfl
                    refine pure_ (i := 5) (N := some 89) (v := ?_) (a' := ?_) #[true, true, true, true, true, true, false, false, false] rfl rfl (any_of HT_.out (by kernel_rfl)) (fun _ _ _ h => h) (Or.inl ⟨by rfl, ?_⟩) ?_ ?_
                    rotate_left
                    ·intro w'
                     go_simp
                     with_reducible rfl
                    rotate_left
                    ·simp only [Act.put, List.setIfInBounds_toArray, List.set_cons_zero, List.set_cons_succ, i64_w, i32_w]
                     rfl
                    refine one_ (i := 6) (N := some 90) #[true, true, true, true, true, true, true, false, false] rfl rfl (one_of HT_.out (by kernel_rfl)) (by decide) (fun K hK => ?_)
                    refine Kd.R_append_rows_step (Kd.int .i64) (w0 := w) w.heap.size (by rfl) (.tmp 85) (.tmp 89) 26 3 (.int .i64 0) 8 rfl Try.underlying26 info3 rfl (by decide) (by omega) (.slice Ao62 y182.length co62) y182 (l0_1.drop ((ji20) : Int).toNat) _ _ _ (fun k_ => some k_ ≠ (.slice Ao65 y185.length co65 : Value).ownBlock) (fun _ => False) rfl rfl ?aO ?aR (fun _ _ h => h) (fun _ h => h.elim) ?aF ?aB ?aS ?aL ?_
                    (case aR => first | (have hz_ := (Kd.C_below HR193.out HB.out); rw [show (l0_1.drop ((ji20) : Int).toNat).length = (l0_1.length - (ji20).toNat) from List.length_drop] at hz_; exact hz_) | (rw [← show (l0_1.drop ((ji20) : Int).toNat).length = (l0_1.length - (ji20).toNat) from List.length_drop]; repeat (first | exact (Kd.C_below HR193.out HB.out) | (with_reducible refine Kd.C_alloc ?_ _) | (with_reducible refine Kd.C_drewN ?_ _) | (with_reducible refine Kd.C_drew ?_)); done) | (repeat (first | exact (Kd.C_below HR193.out HB.out) | (with_reducible refine Kd.C_alloc ?_ _) | (with_reducible refine Kd.C_drewN ?_ _) | (with_reducible refine Kd.C_drew ?_))))
                    (case aB => exact (by repeat (first | (with_reducible first | exact HB.out | apply below_alloc | apply pw_below_drewN | apply below_drew1 | refine below_set ?_ GE162.out | refine below_set ?_ GE163.out | refine below_set ?_ GE166.out) | exact HB.out)))
                    (case aF => exact (fun k_ hk => Kd.fresh' (Kd.R_lt (by (with_reducible repeat (first | apply Kd.R_alloc | apply Kd.R_drewN | apply Kd.R_drew)); exact HO187.out)) k_ hk))
                    (case aO => exact (by (with_reducible repeat (first | apply Kd.R_alloc | apply Kd.R_drewN | apply Kd.R_drew)); exact HO184.out))
                    (case aS => exact (below_size (by repeat (first | (with_reducible first | exact HB.out | apply below_alloc | apply pw_below_drewN | apply below_drew1 | refine below_set ?_ GE162.out | refine below_set ?_ GE163.out | refine below_set ?_ GE166.out) | exact HB.out))))
                    (case aL => have := LMc26.out; have hlx_ := (show (l0_1.drop ((ji20) : Int).toNat).length = (l0_1.length - (ji20).toNat) from List.length_drop); omega)
                    intro v195 w77 ho hb hg hat
                    rw [← Ny194.out] at ho
                    have n0_ := Aside0.mk (blk_grown (g := gb162) (o := .cells #[.slice A0_0 l0_0.length c0_0, .slice (some ad188) l0_1.length c0_1, .slice A0_2 l0_2.length c0_2, .slice A0_3 l0_3.length c0_3, .slice A0_4 l0_4.length c0_4] 28 (0, 0)) (by (with_reducible repeat (first | refine blk_drewN ?_ _ | refine blk_drew ?_ | refine blk_alloc ?_ _)); exact BK162.out) hg (Kd.R_ne HO184.out BK162.out (by decide)))
                    have n1_ := Aside0.mk (blk_grown (g := gb163) (o := .cells #[.slice none 0 0, .slice none 0 0, .slice none 0 0, .slice none 0 0, .slice none 0 0] 28 (0, 0)) (by (with_reducible repeat (first | refine blk_drewN ?_ _ | refine blk_drew ?_ | refine blk_alloc ?_ _)); exact BK163.out) hg (Kd.R_ne HO184.out BK163.out (by decide)))
                    have n2_ := Aside0.mk (blk_grown (g := gb166) (o := .cells #[.slice Ao72 y190.length co72, .slice Ao62 y182.length co62, .slice Ao65 y185.length co65, .slice none 0 0, .slice none 0 0] 28 (0, 0)) (by (with_reducible repeat (first | refine blk_drewN ?_ _ | refine blk_drew ?_ | refine blk_alloc ?_ _)); exact BK166.out) hg (Kd.R_ne HO184.out BK166.out (by decide)))
                    have n3_ := Aside0.mk (Kd.R_after (ok := (fun _ => True)) (by (with_reducible repeat (first | apply Kd.R_alloc | apply Kd.R_drewN | apply Kd.R_drew)); exact Kd.R_mono HO187.out (fun _ hk => ⟨trivial, hk⟩)) hg hat)
                    have n4_ := Aside0.mk (Kd.R_over' (by (with_reducible repeat (first | apply Kd.R_alloc | apply Kd.R_drewN | apply Kd.R_drew)); exact HO192.out) (Kd.R_typed (by (with_reducible repeat (first | apply Kd.R_alloc | apply Kd.R_drewN | apply Kd.R_drew)); exact HO184.out)) (by decide) hg)
                    have n5_ := Aside0.mk (hb)
                    have n6_ := Aside0.mk (ho)
                    clear BK162
                    clear BK163
                    clear BK166
                    clear HO187
                    clear HO192
                    clear HB
                    clear HO184
                    have BK162 := n0_
                    have BK163 := n1_
                    have BK166 := n2_
                    have HO187 := n3_
                    have HO192 := n4_
                    have HB := n5_
                    have HO196 := n6_
                    clear n0_ n1_ n2_ n3_ n4_ n5_ n6_
                    clear ho hb hg hat
                    obtain ⟨Ao78, co78, eo78⟩ := Kd.R_slice HO196.out
                    (first | subst eo78 | (injection eo78 with f1_ f2_ f3_; have f4_ := f1_.symm; have f5_ := f3_.symm; clear f1_ f2_ f3_; subst f4_; subst f5_))
                    refine hK.out _ _ ⟨(blk_cell BK166.out 0).trans rfl, (blk_cell BK166.out 1).trans rfl, (blk_cell BK166.out 2).trans rfl, (blk_cell BK166.out 3).trans rfl, (blk_cell BK166.out 4).trans rfl, (blk_cell BK162.out 0).trans rfl, (blk_cell BK162.out 1).trans rfl, (blk_cell BK162.out 2).trans rfl, (blk_cell BK162.out 3).trans rfl, (blk_cell BK162.out 4).trans rfl⟩ (fun hHeld => ?_)
                    clear hK K
                    refine norm_ (a' := ?_) ?_ ?_
                    rotate_left
                    ·show Act.put _ (some 90) _ = _
                     simp only [Act.put, List.setIfInBounds_toArray, List.set_cons_zero, List.set_cons_succ, i64_w, i32_w]
                     rfl
                    refine pure_ (i := 7) (N := some 91) (v := ?_) (a' := ?_) #[true, true, true, true, true, true, true, true, false] rfl rfl (any_of HT_.out (by kernel_rfl)) (fun _ _ _ h => h) (Or.inl ⟨by rfl, ?_⟩) ?_ ?_
                    rotate_left
                    ·intro w'
                     go_simp
                     with_reducible rfl
                    rotate_left
                    ·simp only [Act.put, List.setIfInBounds_toArray, List.set_cons_zero, List.set_cons_succ, i64_w, i32_w]
                     rfl
                    refine last_ (i := 8) (N := none) #[true, true, true, true, true, true, true, true, true] rfl rfl (one_of HT_.out (by kernel_rfl)) (by decide) (fun K hK => ?_)
                    have hs79 : w77.cell? ⟨gb166, 1, none⟩ = some (.slice Ao62 y182.length co62) := (blk_cell BK166.out 1).trans rfl
                    have hfs79 := blk_frozen BK166.out 1
                    have hns79_0 := NB162_166.out
                    have hns79_1 := NB163_166.out
                    have hms79_0 := NB166_162.out
                    have hms79_1 := NB166_163.out
                    refine skip_ (w1 := ?_) (by rfl) rfl ?_ ?_
                    rotate_left
                    ·go_simp
                     rfl
                    refine hK.out _ _ ?_
                    clear hK K
                    refine done_ (done_of HT_.out (by kernel_rfl)) ?_
                    try go_wp2
                    have n0_ : Aside0 (Kd.R (Kd.int .i64) 3 (w77.setCell ⟨gb166, 1, none⟩ (.slice Ao78 y194.length co78)) w.heap.size (fun k_ => some k_ ≠ (.slice Ao78 y194.length co78 : Value).ownBlock) (.slice Ao65 y185.length co65) y185) := ⟨by (with_reducible repeat (first | apply Kd.R_alloc | apply Kd.R_drewN | apply Kd.R_drew)); exact Kd.R_mono (Kd.R_far (p := ⟨gb166, 1, none⟩) (Kd.R_types HO187.out BK166.out (by decide)) (fun _ hk => hk.2) (.slice Ao78 y194.length co78)) (fun _ hk => hk.1.2)⟩
                    have n1_ : Aside0 (Kd.R Kd.string 9 (w77.setCell ⟨gb166, 1, none⟩ (.slice Ao78 y194.length co78)) w.heap.size (fun _ => True) (.slice Ao72 y190.length co72) y190) := ⟨by (with_reducible repeat (first | apply Kd.R_alloc | apply Kd.R_drewN | apply Kd.R_drew)); exact Kd.R_mono (Kd.R_far (p := ⟨gb166, 1, none⟩) (Kd.R_types HO192.out BK166.out (by decide)) (fun _ hk => hk.2) (.slice Ao78 y194.length co78)) (fun _ hk => trivial)⟩
                    have n2_ : Aside0 (Kd.R (Kd.int .i64) 3 (w77.setCell ⟨gb166, 1, none⟩ (.slice Ao78 y194.length co78)) w.heap.size (fun k_ => some k_ ≠ (.slice Ao65 y185.length co65 : Value).ownBlock) (.slice Ao78 y194.length co78) y194) := ⟨by (with_reducible repeat (first | apply Kd.R_alloc | apply Kd.R_drewN | apply Kd.R_drew)); exact Kd.R_mono (Kd.R_far (p := ⟨gb166, 1, none⟩) (Kd.R_types HO196.out BK166.out (by decide)) (fun _ hk => hk.2) (.slice Ao78 y194.length co78)) (fun _ hk => hk.1)⟩
                    have n3_ : Aside0 ((w77.setCell ⟨gb166, 1, none⟩ (.slice Ao78 y194.length co78)).heap[gb162]? = some (.cells #[.slice A0_0 l0_0.length c0_0, .slice (some ad188) l0_1.length c0_1, .slice A0_2 l0_2.length c0_2, .slice A0_3 l0_3.length c0_3, .slice A0_4 l0_4.length c0_4] 28 (0, 0))) := ⟨by (with_reducible repeat (first | refine blk_drewN ?_ _ | refine blk_drew ?_ | refine blk_alloc ?_ _)); refine blk_far ?_ NB162_166.out _; (with_reducible repeat (first | refine blk_drewN ?_ _ | refine blk_drew ?_ | refine blk_alloc ?_ _)); exact BK162.out⟩
                    have n4_ : Aside0 ((w77.setCell ⟨gb166, 1, none⟩ (.slice Ao78 y194.length co78)).heap[gb163]? = some (.cells #[.slice none 0 0, .slice none 0 0, .slice none 0 0, .slice none 0 0, .slice none 0 0] 28 (0, 0))) := ⟨by (with_reducible repeat (first | refine blk_drewN ?_ _ | refine blk_drew ?_ | refine blk_alloc ?_ _)); refine blk_far ?_ NB163_166.out _; (with_reducible repeat (first | refine blk_drewN ?_ _ | refine blk_drew ?_ | refine blk_alloc ?_ _)); exact BK163.out⟩
                    have n5_ : Aside0 ((w77.setCell ⟨gb166, 1, none⟩ (.slice Ao78 y194.length co78)).heap[gb166]? = some (.cells #[.slice Ao72 y190.length co72, .slice Ao78 y194.length co78, .slice Ao65 y185.length co65, .slice none 0 0, .slice none 0 0] 28 (0, 0))) := ⟨by (with_reducible repeat (first | refine blk_drewN ?_ _ | refine blk_drew ?_ | refine blk_alloc ?_ _)); refine blk_put (cs := #[.slice Ao72 y190.length co72, .slice Ao62 y182.length co62, .slice Ao65 y185.length co65, .slice none 0 0, .slice none 0 0]) ?_ 1 _ rfl; (with_reducible repeat (first | refine blk_drewN ?_ _ | refine blk_drew ?_ | refine blk_alloc ?_ _)); exact BK166.out⟩
                    have n6_ : Aside0 (Below w.heap.size w (w77.setCell ⟨gb166, 1, none⟩ (.slice Ao78 y194.length co78))) := ⟨by repeat (first | (with_reducible first | exact HB.out | apply below_alloc | apply pw_below_drewN | apply below_drew1 | refine below_set ?_ GE162.out | refine below_set ?_ GE163.out | refine below_set ?_ GE166.out) | exact HB.out)⟩
                    (try clear HO187)
                    (try clear HO192)
                    (try clear HO196)
                    (try clear BK162)
                    (try clear BK163)
                    (try clear BK166)
                    (try clear HB)
                    generalize (w77.setCell ⟨gb166, 1, none⟩ (.slice Ao78 y194.length co78)) = w80 at n0_ n1_ n2_ n3_ n4_ n5_ n6_ ⊢
                    have HO187 := n0_
                    have HO192 := n1_
                    have HO196 := n2_
                    have BK162 := n3_
                    have BK163 := n4_
                    have BK166 := n5_
                    have HB := n6_
                    clear n0_ n1_ n2_ n3_ n4_ n5_ n6_
                    have n0_ := Aside0.mk (Kd.R_drew HO187.out)
                    have n1_ := Aside0.mk (Kd.R_drew HO192.out)
                    have n2_ := Aside0.mk (Kd.R_drew HO196.out)
                    have n3_ := Aside0.mk (blk_drew BK162.out)
                    have n4_ := Aside0.mk (blk_drew BK163.out)
                    have n5_ := Aside0.mk (blk_drew BK166.out)
                    have n6_ := Aside0.mk (below_drew1 HB.out)
                    clear HO187
                    clear HO192
                    clear HO196
                    clear BK162
                    clear BK163
                    clear BK166
                    clear HB
                    have HO187 := n0_
                    have HO192 := n1_
                    have HO196 := n2_
                    have BK162 := n3_
                    have BK163 := n4_
                    have BK166 := n5_
                    have HB := n6_
                    clear n0_ n1_ n2_ n3_ n4_ n5_ n6_
                    obtain ⟨i082, hi082, _, hsz82, _⟩ := info_parts info3
                    obtain ⟨A82, hcut82, hA82, hC82⟩ := print_drop_of (P := Try.prog) (Value.int .i64) 0 26 3 .i64 Try.underlying26 hi082 hsz82 A0_2 c0_2 l0_2 (ji20) (of_decide_eq_true (by first | (with_reducible assumption) | assumption)) (of_decide_eq_true (by first | (with_reducible assumption) | assumption)) HC0_2.out
                    have HR197 := Aside0.mk (Kd.C_of_reads (h1 := fun _ => rfl) (hA82 _ (Kd.reads_of_C HR0_2.out)))
                    have HC197 := Aside0.mk hC82
                    clear hA82 hC82 hi082 hsz82
                    refine start_ (n := 9) (S := fun w' => w'.cell? ⟨gb166, 0, none⟩ = some (.slice Ao72 y190.length co72) ∧ w'.cell? ⟨gb166, 1, none⟩ = some (.slice Ao78 y194.length co78) ∧ w'.cell? ⟨gb166, 2, none⟩ = some (.slice Ao65 y185.length co65) ∧ w'.cell? ⟨gb166, 3, none⟩ = some (.slice none 0 0) ∧ w'.cell? ⟨gb166, 4, none⟩ = some (.slice none 0 0) ∧ w'.cell? ⟨gb162, 0, none⟩ = some (.slice A0_0 l0_0.length c0_0) ∧ w'.cell? ⟨gb162, 1, none⟩ = some (.slice (some ad188) l0_1.length c0_1) ∧ w'.cell? ⟨gb162, 2, none⟩ = some (.slice A0_2 l0_2.length c0_2) ∧ w'.cell? ⟨gb162, 3, none⟩ = some (.slice A0_3 l0_3.length c0_3) ∧ w'.cell? ⟨gb162, 4, none⟩ = some (.slice A0_4 l0_4.length c0_4)) (ds := [8]) #[false, false, false, false, false, false, false, false, false] (by kernel_rfl) rfl rfl ⟨(blk_cell BK166.out 0).trans rfl, (blk_cell BK166.out 1).trans rfl, (blk_cell BK166.out 2).trans rfl, (blk_cell BK166.out 3).trans rfl, (blk_cell BK166.out 4).trans rfl, (blk_cell BK162.out 0).trans rfl, (blk_cell BK162.out 1).trans rfl, (blk_cell BK162.out 2).trans rfl, (blk_cell BK162.out 3).trans rfl, (blk_cell BK162.out 4).trans rfl⟩ (fun hHeld => ?_); refine with_tabW musterref03_Insert.tab16 musterref03_Insert.bits16 (fun HT_ HW_ => ?_)
                    generalize w80.drew = w81 at HO187 HO192 HO196 BK162 BK163 BK166 HB HR197 hHeld ⊢
                    refine pure_ (i := 0) (N := some 92) (v := ?_) (a' := ?_) #[true, false, false, false, false, false, false, false, false] rfl rfl (any_of HT_.out (by kernel_rfl)) (fun _ _ _ h => h) (Or.inl ⟨by rfl, ?_⟩) ?_ ?_
                    rotate_left
                    ·intro w'
                     go_simp
                     with_reducible rfl
                    rotate_left
                    ·simp only [Act.put, List.setIfInBounds_toArray, List.set_cons_zero, List.set_cons_succ, i64_w, i32_w]
                     rfl
                    refine pure_ (i := 2) (N := some 94) (v := ?_) (a' := ?_) #[true, false, true, false, false, false, false, false, false] rfl rfl (any_of HT_.out (by kernel_rfl)) (fun _ _ _ h => h) (Or.inl ⟨by rfl, ?_⟩) ?_ ?_
                    rotate_left
                    ·intro w'
                     go_simp
                     with_reducible rfl
                    rotate_left
                    ·simp only [Act.put, List.setIfInBounds_toArray, List.set_cons_zero, List.set_cons_succ, i64_w, i32_w]
                     rfl
                    refine pure_ (i := 4) (N := some 96) (v := ?_) (a' := ?_) #[true, false, true, false, true, false, false, false, false] rfl rfl (any_of HT_.out (by kernel_rfl)) (fun _ _ _ h => h) (Or.inl ⟨by rfl, ?_⟩) ?_ ?_
                    rotate_left
                    ·intro w'
                     go_simp
                     with_reducible rfl
                    rotate_left
                    ·simp only [Act.put, List.setIfInBounds_toArray, List.set_cons_zero, List.set_cons_succ, i64_w, i32_w]
                     rfl
                    refine take_ (i := 1) (N := some 93) (v := ?_) (a' := ?_) #[true, true, true, false, true, false, false, false, false] rfl rfl (take_ofW HT_.out HW_.out (by kernel_rfl)) (fun _ _ _ h => h) (Or.inl ⟨by rfl, ?_⟩) hHeld ?_ ?_
                    rotate_left
                    ·rintro w' ⟨s0, s1, s2, s3, s4, s5, s6, s7, s8, s9⟩
                     go_simp
                     with_reducible rfl
                    rotate_left
                    ·simp only [Act.put, List.setIfInBounds_toArray, List.set_cons_zero, List.set_cons_succ, i64_w, i32_w]
                     rfl
                    refine take_ (i := 3) (N := some 95) (v := ?_) (a' := ?_) #[true, true, true, true, true, false, false, false, false] rfl rfl (take_ofW HT_.out HW_.out (by kernel_rfl)) (fun _ _ _ h => h) (Or.inl ⟨by rfl, ?_⟩) hHeld ?_ ?_
                    rotate_left
                    ·rintro w' ⟨s0, s1, s2, s3, s4, s5, s6, s7, s8, s9⟩
                     go_simp
                     with_reducible rfl
                    rotate_left
                    ·simp only [Act.put, List.setIfInBounds_toArray, List.set_cons_zero, List.set_cons_succ, i64_w, i32_w]
                     rfl
                    refine pure_ (i := 5) (N := some 97) (v := ?_) (a' := ?_) #[true, true, true, true, true, true, false, false, false] rfl rfl (any_of HT_.out (by kernel_rfl)) (fun _ _ _ h => h) (Or.inl ⟨by rfl, ?_⟩) ?_ ?_
                    rotate_left
                    ·intro w'
                     go_simp
                     with_reducible rfl
                    rotate_left
                    ·simp only [Act.put, List.setIfInBounds_toArray, List.set_cons_zero, List.set_cons_succ, i64_w, i32_w]
                     rfl
                    refine one_ (i := 6) (N := some 98) #[true, true, true, true, true, true, true, false, false] rfl rfl (one_of HT_.out (by kernel_rfl)) (by decide) (fun K hK => ?_)
                    refine Kd.R_append_rows_step (Kd.int .i64) (w0 := w) w.heap.size (by rfl) (.tmp 93) (.tmp 97) 26 3 (.int .i64 0) 8 rfl Try.underlying26 info3 rfl (by decide) (by omega) (.slice Ao65 y185.length co65) y185 (l0_2.drop ((ji20) : Int).toNat) _ _ _ (fun k_ => some k_ ≠ (.slice Ao78 y194.length co78 : Value).ownBlock) (fun _ => False) rfl rfl ?aO ?aR (fun _ _ h => h) (fun _ h => h.elim) ?aF ?aB ?aS ?aL ?_
                    (case aR => first | (have hz_ := (Kd.C_below HR197.out HB.out); rw [show (l0_2.drop ((ji20) : Int).toNat).length = (l0_2.length - (ji20).toNat) from List.length_drop] at hz_; exact hz_) | (rw [← show (l0_2.drop ((ji20) : Int).toNat).length = (l0_2.length - (ji20).toNat) from List.length_drop]; repeat (first | exact (Kd.C_below HR197.out HB.out) | (with_reducible refine Kd.C_alloc ?_ _) | (with_reducible refine Kd.C_drewN ?_ _) | (with_reducible refine Kd.C_drew ?_)); done) | (repeat (first | exact (Kd.C_below HR197.out HB.out) | (with_reducible refine Kd.C_alloc ?_ _) | (with_reducible refine Kd.C_drewN ?_ _) | (with_reducible refine Kd.C_drew ?_))))
                    (case aB => exact (by repeat (first | (with_reducible first | exact HB.out | apply below_alloc | apply pw_below_drewN | apply below_drew1 | refine below_set ?_ GE162.out | refine below_set ?_ GE163.out | refine below_set ?_ GE166.out) | exact HB.out)))
                    (case aF => exact (fun k_ hk => Kd.fresh' (Kd.R_lt (by (with_reducible repeat (first | apply Kd.R_alloc | apply Kd.R_drewN | apply Kd.R_drew)); exact HO196.out)) k_ hk))
                    (case aO => exact (by (with_reducible repeat (first | apply Kd.R_alloc | apply Kd.R_drewN | apply Kd.R_drew)); exact HO187.out))
                    (case aS => exact (below_size (by repeat (first | (with_reducible first | exact HB.out | apply below_alloc | apply pw_below_drewN | apply below_drew1 | refine below_set ?_ GE162.out | refine below_set ?_ GE163.out | refine below_set ?_ GE166.out) | exact HB.out))))
                    (case aL => have := LMc29.out; have hlx_ := (show (l0_2.drop ((ji20) : Int).toNat).length = (l0_2.length - (ji20).toNat) from List.length_drop); omega)
                    intro v199 w83 ho hb hg hat
                    rw [← Ny198.out] at ho
                    have n0_ := Aside0.mk (blk_grown (g := gb162) (o := .cells #[.slice A0_0 l0_0.length c0_0, .slice (some ad188) l0_1.length c0_1, .slice A0_2 l0_2.length c0_2, .slice A0_3 l0_3.length c0_3, .slice A0_4 l0_4.length c0_4] 28 (0, 0)) (by (with_reducible repeat (first | refine blk_drewN ?_ _ | refine blk_drew ?_ | refine blk_alloc ?_ _)); exact BK162.out) hg (Kd.R_ne HO187.out BK162.out (by decide)))
                    have n1_ := Aside0.mk (blk_grown (g := gb163) (o := .cells #[.slice none 0 0, .slice none 0 0, .slice none 0 0, .slice none 0 0, .slice none 0 0] 28 (0, 0)) (by (with_reducible repeat (first | refine blk_drewN ?_ _ | refine blk_drew ?_ | refine blk_alloc ?_ _)); exact BK163.out) hg (Kd.R_ne HO187.out BK163.out (by decide)))
                    have n2_ := Aside0.mk (blk_grown (g := gb166) (o := .cells #[.slice Ao72 y190.length co72, .slice Ao78 y194.length co78, .slice Ao65 y185.length co65, .slice none 0 0, .slice none 0 0] 28 (0, 0)) (by (with_reducible repeat (first | refine blk_drewN ?_ _ | refine blk_drew ?_ | refine blk_alloc ?_ _)); exact BK166.out) hg (Kd.R_ne HO187.out BK166.out (by decide)))
                    have n3_ := Aside0.mk (Kd.R_over' (by (with_reducible repeat (first | apply Kd.R_alloc | apply Kd.R_drewN | apply Kd.R_drew)); exact HO192.out) (Kd.R_typed (by (with_reducible repeat (first | apply Kd.R_alloc | apply Kd.R_drewN | apply Kd.R_drew)); exact HO187.out)) (by decide) hg)
                    have n4_ := Aside0.mk (Kd.R_after (ok := (fun _ => True)) (by (with_reducible repeat (first | apply Kd.R_alloc | apply Kd.R_drewN | apply Kd.R_drew)); exact Kd.R_mono HO196.out (fun _ hk => ⟨trivial, hk⟩)) hg hat)
                    have n5_ := Aside0.mk (hb)
                    have n6_ := Aside0.mk (ho)
                    clear BK162
                    clear BK163
                    clear BK166
                    clear HO192
                    clear HO196
                    clear HB
                    clear HO187
                    have BK162 := n0_
                    have BK163 := n1_
                    have BK166 := n2_
                    have HO192 := n3_
                    have HO196 := n4_
                    have HB := n5_
                    have HO200 := n6_
                    clear n0_ n1_ n2_ n3_ n4_ n5_ n6_
                    clear ho hb hg hat
                    obtain ⟨Ao84, co84, eo84⟩ := Kd.R_slice HO200.out
                    (first | subst eo84 | (injection eo84 with f1_ f2_ f3_; have f4_ := f1_.symm; have f5_ := f3_.symm; clear f1_ f2_ f3_; subst f4_; subst f5_))
                    refine hK.out _ _ ⟨(blk_cell BK166.out 0).trans rfl, (blk_cell BK166.out 1).trans rfl, (blk_cell BK166.out 2).trans rfl, (blk_cell BK166.out 3).trans rfl, (blk_cell BK166.out 4).trans rfl, (blk_cell BK162.out 0).trans rfl, (blk_cell BK162.out 1).trans rfl, (blk_cell BK162.out 2).trans rfl, (blk_cell BK162.out 3).trans rfl, (blk_cell BK162.out 4).trans rfl⟩ (fun hHeld => ?_)
                    clear hK K
                    refine norm_ (a' := ?_) ?_ ?_
                    rotate_left
                    ·show Act.put _ (some 98) _ = _
                     simp only [Act.put, List.setIfInBounds_toArray, List.set_cons_zero, List.set_cons_succ, i64_w, i32_w]
                     rfl
                    refine pure_ (i := 7) (N := some 99) (v := ?_) (a' := ?_) #[true, true, true, true, true, true, true, true, false] rfl rfl (any_of HT_.out (by kernel_rfl)) (fun _ _ _ h => h) (Or.inl ⟨by rfl, ?_⟩) ?_ ?_
                    rotate_left
                    ·intro w'
                     go_simp
                     with_reducible rfl
                    rotate_left
                    ·simp only [Act.put, List.setIfInBounds_toArray, List.set_cons_zero, List.set_cons_succ, i64_w, i32_w]
                     rfl
                    refine last_ (i := 8) (N := none) #[true, true, true, true, true, true, true, true, true] rfl rfl (one_of HT_.out (by kernel_rfl)) (by decide) (fun K hK => ?_)
                    have hs85 : w83.cell? ⟨gb166, 2, none⟩ = some (.slice Ao65 y185.length co65) := (blk_cell BK166.out 2).trans rfl
                    have hfs85 := blk_frozen BK166.out 2
                    have hns85_0 := NB162_166.out
                    have hns85_1 := NB163_166.out
                    have hms85_0 := NB166_162.out
                    have hms85_1 := NB166_163.out
                    refine skip_ (w1 := ?_) (by rfl) rfl ?_ ?_
                    rotate_left
                    ·go_simp
                     rfl
                    refine hK.out _ _ ?_
                    clear hK K
                    refine done_ (done_of HT_.out (by kernel_rfl)) ?_
                    have n0_ : Aside0 (Kd.R Kd.string 9 (w83.setCell ⟨gb166, 2, none⟩ (.slice Ao84 y198.length co84)) w.heap.size (fun _ => True) (.slice Ao72 y190.length co72) y190) := ⟨by (with_reducible repeat (first | apply Kd.R_alloc | apply Kd.R_drewN | apply Kd.R_drew)); exact Kd.R_mono (Kd.R_far (p := ⟨gb166, 2, none⟩) (Kd.R_types HO192.out BK166.out (by decide)) (fun _ hk => hk.2) (.slice Ao84 y198.length co84)) (fun _ hk => trivial)⟩
                    have n1_ : Aside0 (Kd.R (Kd.int .i64) 3 (w83.setCell ⟨gb166, 2, none⟩ (.slice Ao84 y198.length co84)) w.heap.size (fun k_ => some k_ ≠ (.slice Ao84 y198.length co84 : Value).ownBlock) (.slice Ao78 y194.length co78) y194) := ⟨by (with_reducible repeat (first | apply Kd.R_alloc | apply Kd.R_drewN | apply Kd.R_drew)); exact Kd.R_mono (Kd.R_far (p := ⟨gb166, 2, none⟩) (Kd.R_types HO196.out BK166.out (by decide)) (fun _ hk => hk.2) (.slice Ao84 y198.length co84)) (fun _ hk => hk.1.2)⟩
                    have n2_ : Aside0 (Kd.R (Kd.int .i64) 3 (w83.setCell ⟨gb166, 2, none⟩ (.slice Ao84 y198.length co84)) w.heap.size (fun k_ => some k_ ≠ (.slice Ao78 y194.length co78 : Value).ownBlock) (.slice Ao84 y198.length co84) y198) := ⟨by (with_reducible repeat (first | apply Kd.R_alloc | apply Kd.R_drewN | apply Kd.R_drew)); exact Kd.R_mono (Kd.R_far (p := ⟨gb166, 2, none⟩) (Kd.R_types HO200.out BK166.out (by decide)) (fun _ hk => hk.2) (.slice Ao84 y198.length co84)) (fun _ hk => hk.1)⟩
                    have n3_ : Aside0 ((w83.setCell ⟨gb166, 2, none⟩ (.slice Ao84 y198.length co84)).heap[gb162]? = some (.cells #[.slice A0_0 l0_0.length c0_0, .slice (some ad188) l0_1.length c0_1, .slice A0_2 l0_2.length c0_2, .slice A0_3 l0_3.length c0_3, .slice A0_4 l0_4.length c0_4] 28 (0, 0))) := ⟨by (with_reducible repeat (first | refine blk_drewN ?_ _ | refine blk_drew ?_ | refine blk_alloc ?_ _)); refine blk_far ?_ NB162_166.out _; (with_reducible repeat (first | refine blk_drewN ?_ _ | refine blk_drew ?_ | refine blk_alloc ?_ _)); exact BK162.out⟩
                    have n4_ : Aside0 ((w83.setCell ⟨gb166, 2, none⟩ (.slice Ao84 y198.length co84)).heap[gb163]? = some (.cells #[.slice none 0 0, .slice none 0 0, .slice none 0 0, .slice none 0 0, .slice none 0 0] 28 (0, 0))) := ⟨by (with_reducible repeat (first | refine blk_drewN ?_ _ | refine blk_drew ?_ | refine blk_alloc ?_ _)); refine blk_far ?_ NB163_166.out _; (with_reducible repeat (first | refine blk_drewN ?_ _ | refine blk_drew ?_ | refine blk_alloc ?_ _)); exact BK163.out⟩
                    have n5_ : Aside0 ((w83.setCell ⟨gb166, 2, none⟩ (.slice Ao84 y198.length co84)).heap[gb166]? = some (.cells #[.slice Ao72 y190.length co72, .slice Ao78 y194.length co78, .slice Ao84 y198.length co84, .slice none 0 0, .slice none 0 0] 28 (0, 0))) := ⟨by (with_reducible repeat (first | refine blk_drewN ?_ _ | refine blk_drew ?_ | refine blk_alloc ?_ _)); refine blk_put (cs := #[.slice Ao72 y190.length co72, .slice Ao78 y194.length co78, .slice Ao65 y185.length co65, .slice none 0 0, .slice none 0 0]) ?_ 2 _ rfl; (with_reducible repeat (first | refine blk_drewN ?_ _ | refine blk_drew ?_ | refine blk_alloc ?_ _)); exact BK166.out⟩
                    have n6_ : Aside0 (Below w.heap.size w (w83.setCell ⟨gb166, 2, none⟩ (.slice Ao84 y198.length co84))) := ⟨by repeat (first | (with_reducible first | exact HB.out | apply below_alloc | apply pw_below_drewN | apply below_drew1 | refine below_set ?_ GE162.out | refine below_set ?_ GE163.out | refine below_set ?_ GE166.out) | exact HB.out)⟩
                    (try clear HO192)
                    (try clear HO196)
                    (try clear HO200)
                    (try clear BK162)
                    (try clear BK163)
                    (try clear BK166)
                    (try clear HB)
                    generalize (w83.setCell ⟨gb166, 2, none⟩ (.slice Ao84 y198.length co84)) = w86 at n0_ n1_ n2_ n3_ n4_ n5_ n6_ ⊢
                    have HO192 := n0_
                    have HO196 := n1_
                    have HO200 := n2_
                    have BK162 := n3_
                    have BK163 := n4_
                    have BK166 := n5_
                    have HB := n6_
                    clear n0_ n1_ n2_ n3_ n4_ n5_ n6_
                    have hcz87_0 : w86.cell? ⟨gb162, 0, none⟩ = some (.slice A0_0 l0_0.length c0_0) := (blk_cell BK162.out 0).trans rfl
                    have hcz87_1 : w86.cell? ⟨gb162, 1, none⟩ = some (.slice (some ad188) l0_1.length c0_1) := (blk_cell BK162.out 1).trans rfl
                    have hcz87_2 : w86.cell? ⟨gb162, 2, none⟩ = some (.slice A0_2 l0_2.length c0_2) := (blk_cell BK162.out 2).trans rfl
                    have hcz87_3 : w86.cell? ⟨gb162, 3, none⟩ = some (.slice A0_3 l0_3.length c0_3) := (blk_cell BK162.out 3).trans rfl
                    have hcz87_4 : w86.cell? ⟨gb162, 4, none⟩ = some (.slice A0_4 l0_4.length c0_4) := (blk_cell BK162.out 4).trans rfl
                    have hfz87_0 := blk_frozen BK162.out 0
                    have hfz87_1 := blk_frozen BK162.out 1
                    have hfz87_2 := blk_frozen BK162.out 2
                    have hfz87_3 := blk_frozen BK162.out 3
                    have hfz87_4 := blk_frozen BK162.out 4
                    have hcz88_0 : w86.cell? ⟨gb166, 0, none⟩ = some (.slice Ao72 y190.length co72) := (blk_cell BK166.out 0).trans rfl
                    have hcz88_1 : w86.cell? ⟨gb166, 1, none⟩ = some (.slice Ao78 y194.length co78) := (blk_cell BK166.out 1).trans rfl
                    have hcz88_2 : w86.cell? ⟨gb166, 2, none⟩ = some (.slice Ao84 y198.length co84) := (blk_cell BK166.out 2).trans rfl
                    have hcz88_3 : w86.cell? ⟨gb166, 3, none⟩ = some (.slice none 0 0) := (blk_cell BK166.out 3).trans rfl
                    have hcz88_4 : w86.cell? ⟨gb166, 4, none⟩ = some (.slice none 0 0) := (blk_cell BK166.out 4).trans rfl
                    have hfz88_0 := blk_frozen BK166.out 0
                    have hfz88_1 := blk_frozen BK166.out 1
                    have hfz88_2 := blk_frozen BK166.out 2
                    have hfz88_3 := blk_frozen BK166.out 3
                    have hfz88_4 := blk_frozen BK166.out 4
                    try go_wp2_with (first | ((with_reducible refine gate_callee (f := 92) rfl ?_); refine goesL_ (some 106) rfl rfl Try.func92 (by kernel_rfl) rfl #[.agg #[.slice A0_0 l0_0.length c0_0, .slice (some ad188) l0_1.length c0_1, .slice A0_2 l0_2.length c0_2, .slice A0_3 l0_3.length c0_3, .slice A0_4 l0_4.length c0_4], .agg #[.slice Ao72 y190.length co72, .slice Ao78 y194.length co78, .slice Ao84 y198.length co84, .slice none 0 0, .slice none 0 0], .string a1, .int .i64 (wrap64 (a3 + 1))] rfl (by (try simp only [List.map_toArray, List.map_cons, List.map_nil]); first | done | rfl | (simp only [List.length_drop, List.length_take]; rfl)) ?_; (refine (musterref03_remade.calls k _ _ l0_0 _ _ l0_1 _ _ l0_2 _ _ l0_3 _ _ l0_4 (fun k_ => some k_ = (.slice Ao72 y190.length co72 : Value).ownBlock) (.slice Ao72 y190.length co72) y190 (fun k_ => some k_ = (.slice Ao78 y194.length co78 : Value).ownBlock) (.slice Ao78 y194.length co78) y194 (fun k_ => some k_ = (.slice Ao84 y198.length co84 : Value).ownBlock) (.slice Ao84 y198.length co84) y198 _ _ ([] : List ByteArray) _ _ ([] : List Int) a1 (wrap64 (a3 + 1)) t201 t204 t207 t210 t213 t216 w _ ?side1 ?side2 ?side3 ?side4 ?side5 ?side6 ?side7 ?side8 ?side9 ?side10 ?side11 ?side12 ?side13 ?side14 ?side15 ?side16 ?side17 ?side18 ?side19 ?side20 A30.out).mono ?_); (case side1 => repeat (first | (with_reducible first | exact HB.out | apply below_alloc | apply pw_below_drewN | apply below_drew1 | refine below_set ?_ GE162.out | refine below_set ?_ GE163.out | refine below_set ?_ GE166.out) | exact HB.out)); (case side2 => exact Kd.C_kept_came Kd.heap_string HR0_0.out (by repeat (first | (with_reducible first | exact HB.out | apply below_alloc | apply pw_below_drewN | apply below_drew1 | refine below_set ?_ GE162.out | refine below_set ?_ GE163.out | refine below_set ?_ GE166.out) | exact HB.out)) (fun k_ hs_ => Or.elim hs_ (fun e_ => (fun e_ => Kd.R_base HO192.out k_ e_.symm) e_) (fun e_ => Or.elim e_ (fun e_ => (fun e_ => Kd.R_base HO196.out k_ e_.symm) e_) (fun e_ => (fun e_ => Kd.R_base HO200.out k_ e_.symm) e_)))); (case side3 => exact HC0_0.out); (case side4 => exact Kd.C_kept_came (Kd.heap_int .i64) HR0_1.out (by repeat (first | (with_reducible first | exact HB.out | apply below_alloc | apply pw_below_drewN | apply below_drew1 | refine below_set ?_ GE162.out | refine below_set ?_ GE163.out | refine below_set ?_ GE166.out) | exact HB.out)) (fun k_ hs_ => Or.elim hs_ (fun e_ => (fun e_ => Kd.R_base HO192.out k_ e_.symm) e_) (fun e_ => Or.elim e_ (fun e_ => (fun e_ => Kd.R_base HO196.out k_ e_.symm) e_) (fun e_ => (fun e_ => Kd.R_base HO200.out k_ e_.symm) e_)))); (case side5 => exact HC0_1.out); (case side6 => exact Kd.C_kept_came (Kd.heap_int .i64) HR0_2.out (by repeat (first | (with_reducible first | exact HB.out | apply below_alloc | apply pw_below_drewN | apply below_drew1 | refine below_set ?_ GE162.out | refine below_set ?_ GE163.out | refine below_set ?_ GE166.out) | exact HB.out)) (fun k_ hs_ => Or.elim hs_ (fun e_ => (fun e_ => Kd.R_base HO192.out k_ e_.symm) e_) (fun e_ => Or.elim e_ (fun e_ => (fun e_ => Kd.R_base HO196.out k_ e_.symm) e_) (fun e_ => (fun e_ => Kd.R_base HO200.out k_ e_.symm) e_)))); (case side7 => exact HC0_2.out); (case side8 => exact Kd.C_kept_came Kd.heap_string HR0_3.out (by repeat (first | (with_reducible first | exact HB.out | apply below_alloc | apply pw_below_drewN | apply below_drew1 | refine below_set ?_ GE162.out | refine below_set ?_ GE163.out | refine below_set ?_ GE166.out) | exact HB.out)) (fun k_ hs_ => Or.elim hs_ (fun e_ => (fun e_ => Kd.R_base HO192.out k_ e_.symm) e_) (fun e_ => Or.elim e_ (fun e_ => (fun e_ => Kd.R_base HO196.out k_ e_.symm) e_) (fun e_ => (fun e_ => Kd.R_base HO200.out k_ e_.symm) e_)))); (case side9 => exact HC0_3.out); (case side10 => exact Kd.C_kept_came (Kd.heap_int .i64) HR0_4.out (by repeat (first | (with_reducible first | exact HB.out | apply below_alloc | apply pw_below_drewN | apply below_drew1 | refine below_set ?_ GE162.out | refine below_set ?_ GE163.out | refine below_set ?_ GE166.out) | exact HB.out)) (fun k_ hs_ => Or.elim hs_ (fun e_ => (fun e_ => Kd.R_base HO192.out k_ e_.symm) e_) (fun e_ => Or.elim e_ (fun e_ => (fun e_ => Kd.R_base HO196.out k_ e_.symm) e_) (fun e_ => (fun e_ => Kd.R_base HO200.out k_ e_.symm) e_)))); (case side11 => exact HC0_4.out); (case side12 => exact Kd.R_tight rfl HO192.out); (case side13 => exact Kd.R_tight rfl HO196.out); (case side14 => exact fun k_ e_ => (HO196.out.1 k_ e_.symm)); (case side15 => exact Kd.R_tight rfl HO200.out); (case side16 => exact fun k_ e_ => (HO200.out.1 k_ e_.symm)); (case side17 => exact Kd.C_kept_nil); (case side18 => exact Nat.le_refl _); (case side19 => exact Kd.C_kept_nil); (case side20 => exact Nat.le_refl _); rintro e w89 ⟨v202, v205, v208, v211, v214, rfl, ho0, ho1, ho2, ho3, ho4, hb, hkp⟩; refine ⟨_, rfl, ?_⟩; have n0_ := Aside0.mk (blk_kept (by (with_reducible repeat (first | refine blk_drewN ?_ _ | refine blk_drew ?_ | refine blk_alloc ?_ _)); exact BK162.out) hkp (fun hs_ => Or.elim hs_ (fun e_ => (fun e_ => (Kd.R_ne HO192.out BK162.out (by decide)) e_) e_) (fun e_ => Or.elim e_ (fun e_ => (fun e_ => (Kd.R_ne HO196.out BK162.out (by decide)) e_) e_) (fun e_ => (fun e_ => (Kd.R_ne HO200.out BK162.out (by decide)) e_) e_)))); have n1_ := Aside0.mk (blk_kept (by (with_reducible repeat (first | refine blk_drewN ?_ _ | refine blk_drew ?_ | refine blk_alloc ?_ _)); exact BK163.out) hkp (fun hs_ => Or.elim hs_ (fun e_ => (fun e_ => (Kd.R_ne HO192.out BK163.out (by decide)) e_) e_) (fun e_ => Or.elim e_ (fun e_ => (fun e_ => (Kd.R_ne HO196.out BK163.out (by decide)) e_) e_) (fun e_ => (fun e_ => (Kd.R_ne HO200.out BK163.out (by decide)) e_) e_)))); have n2_ := Aside0.mk (blk_kept (by (with_reducible repeat (first | refine blk_drewN ?_ _ | refine blk_drew ?_ | refine blk_alloc ?_ _)); exact BK166.out) hkp (fun hs_ => Or.elim hs_ (fun e_ => (fun e_ => (Kd.R_ne HO192.out BK166.out (by decide)) e_) e_) (fun e_ => Or.elim e_ (fun e_ => (fun e_ => (Kd.R_ne HO196.out BK166.out (by decide)) e_) e_) (fun e_ => (fun e_ => (Kd.R_ne HO200.out BK166.out (by decide)) e_) e_)))); have n3_ := Aside0.mk (Kd.R_mono (ok' := fun k_ => some k_ ≠ (v211 : Value).ownBlock) ho0 (fun k_ hk_ => hk_.2)); have n4_ := Aside0.mk (Kd.R_mono (ok' := fun k_ => some k_ ≠ (v208 : Value).ownBlock ∧ some k_ ≠ (v214 : Value).ownBlock) ho1 (fun k_ hk_ => ⟨hk_.2.1, hk_.2.2⟩)); have n5_ := Aside0.mk (Kd.R_mono (ok' := fun k_ => some k_ ≠ (v205 : Value).ownBlock ∧ some k_ ≠ (v214 : Value).ownBlock) ho2 (fun k_ hk_ => ⟨hk_.2.1, hk_.2.2⟩)); have n6_ := Aside0.mk (Kd.R_mono (ok' := fun k_ => some k_ ≠ (v202 : Value).ownBlock) ho3 (fun k_ hk_ => hk_.2)); have n7_ := Aside0.mk (Kd.R_mono (ok' := fun k_ => some k_ ≠ (v205 : Value).ownBlock ∧ some k_ ≠ (v208 : Value).ownBlock) ho4 (fun k_ hk_ => ⟨hk_.2.1, hk_.2.2⟩)); have n8_ := Aside0.mk (hb); clear BK162; clear BK163; clear BK166; clear HB; clear HO192; clear HO196; clear HO200; have BK162 := n0_; have BK163 := n1_; have BK166 := n2_; have HO203 := n3_; have HO206 := n4_; have HO209 := n5_; have HO212 := n6_; have HO215 := n7_; have HB := n8_; clear n0_ n1_ n2_ n3_ n4_ n5_ n6_ n7_ n8_; (try clear hb); (try clear hkp); (try clear ho0); (try clear ho1); (try clear ho2); (try clear ho3); (try clear ho4); obtain ⟨Ao90, co90, eo90⟩ := Kd.R_slice HO203.out; subst eo90; have hcz91_0 : w89.cell? ⟨gb166, 0, none⟩ = some (.slice Ao72 y190.length co72) := (blk_cell BK166.out 0).trans rfl; have hcz91_1 : w89.cell? ⟨gb166, 1, none⟩ = some (.slice Ao78 y194.length co78) := (blk_cell BK166.out 1).trans rfl; have hcz91_2 : w89.cell? ⟨gb166, 2, none⟩ = some (.slice Ao84 y198.length co84) := (blk_cell BK166.out 2).trans rfl; have hcz91_3 : w89.cell? ⟨gb166, 3, none⟩ = some (.slice none 0 0) := (blk_cell BK166.out 3).trans rfl; have hcz91_4 : w89.cell? ⟨gb166, 4, none⟩ = some (.slice none 0 0) := (blk_cell BK166.out 4).trans rfl; have hfz91_0 := blk_frozen BK166.out 0; have hfz91_1 := blk_frozen BK166.out 1; have hfz91_2 := blk_frozen BK166.out 2; have hfz91_3 := blk_frozen BK166.out 3; have hfz91_4 := blk_frozen BK166.out 4; obtain ⟨Ao92, co92, eo92⟩ := Kd.R_slice HO206.out; subst eo92; obtain ⟨Ao93, co93, eo93⟩ := Kd.R_slice HO209.out; subst eo93; obtain ⟨Ao94, co94, eo94⟩ := Kd.R_slice HO212.out; subst eo94; obtain ⟨Ao95, co95, eo95⟩ := Kd.R_slice HO215.out; subst eo95; have hcz96_0 : w89.cell? ⟨gb163, 0, none⟩ = some (.slice none 0 0) := (blk_cell BK163.out 0).trans rfl; have hcz96_1 : w89.cell? ⟨gb163, 1, none⟩ = some (.slice none 0 0) := (blk_cell BK163.out 1).trans rfl; have hcz96_2 : w89.cell? ⟨gb163, 2, none⟩ = some (.slice none 0 0) := (blk_cell BK163.out 2).trans rfl; have hcz96_3 : w89.cell? ⟨gb163, 3, none⟩ = some (.slice none 0 0) := (blk_cell BK163.out 3).trans rfl; have hcz96_4 : w89.cell? ⟨gb163, 4, none⟩ = some (.slice none 0 0) := (blk_cell BK163.out 4).trans rfl; have hfz96_0 := blk_frozen BK163.out 0; have hfz96_1 := blk_frozen BK163.out 1; have hfz96_2 := blk_frozen BK163.out 2; have hfz96_3 := blk_frozen BK163.out 3; have hfz96_4 := blk_frozen BK163.out 4))
                    refine bodyPost_ret (results_list (rs := [.cell 8 28, .tmp 9, .tmp 10, .tmp 11]) rfl (by simp) (.cell gb163 28 #[.slice Ao90 t201.length co90, .slice Ao92 t204.length co92, .slice Ao93 t207.length co93, .slice Ao94 t210.length co94, .slice Ao95 t213.length co95] (0, 0) _ rfl (by (with_reducible repeat (first | refine blk_drewN ?_ _ | refine blk_drew ?_ | refine blk_alloc ?_ _)); refine blk_put (cs := #[.slice Ao90 t201.length co90, .slice Ao92 t204.length co92, .slice Ao93 t207.length co93, .slice Ao94 t210.length co94, .slice none 0 0]) ?_ 4 _ rfl; (with_reducible repeat (first | refine blk_drewN ?_ _ | refine blk_drew ?_ | refine blk_alloc ?_ _)); refine blk_put (cs := #[.slice Ao90 t201.length co90, .slice Ao92 t204.length co92, .slice Ao93 t207.length co93, .slice none 0 0, .slice none 0 0]) ?_ 3 _ rfl; (with_reducible repeat (first | refine blk_drewN ?_ _ | refine blk_drew ?_ | refine blk_alloc ?_ _)); refine blk_put (cs := #[.slice Ao90 t201.length co90, .slice Ao92 t204.length co92, .slice none 0 0, .slice none 0 0, .slice none 0 0]) ?_ 2 _ rfl; (with_reducible repeat (first | refine blk_drewN ?_ _ | refine blk_drew ?_ | refine blk_alloc ?_ _)); refine blk_put (cs := #[.slice Ao90 t201.length co90, .slice none 0 0, .slice none 0 0, .slice none 0 0, .slice none 0 0]) ?_ 1 _ rfl; (with_reducible repeat (first | refine blk_drewN ?_ _ | refine blk_drew ?_ | refine blk_alloc ?_ _)); refine blk_put (cs := #[.slice none 0 0, .slice none 0 0, .slice none 0 0, .slice none 0 0, .slice none 0 0]) ?_ 0 _ rfl; (with_reducible repeat (first | refine blk_drewN ?_ _ | refine blk_drew ?_ | refine blk_alloc ?_ _)); refine blk_far ?_ NB163_166.out _; (with_reducible repeat (first | refine blk_drewN ?_ _ | refine blk_drew ?_ | refine blk_alloc ?_ _)); refine blk_far ?_ NB163_166.out _; (with_reducible repeat (first | refine blk_drewN ?_ _ | refine blk_drew ?_ | refine blk_alloc ?_ _)); refine blk_far ?_ NB163_166.out _; (with_reducible repeat (first | refine blk_drewN ?_ _ | refine blk_drew ?_ | refine blk_alloc ?_ _)); refine blk_far ?_ NB163_166.out _; (with_reducible repeat (first | refine blk_drewN ?_ _ | refine blk_drew ?_ | refine blk_alloc ?_ _)); refine blk_far ?_ NB163_166.out _; (with_reducible repeat (first | refine blk_drewN ?_ _ | refine blk_drew ?_ | refine blk_alloc ?_ _)); exact BK163.out) Try.underlying28 rfl (by kernel_rfl) (.tmp (.tmp (.tmp .nil))))) rfl ?_
                    exact ⟨_, _, _, _, _, by first | rfl | (simp [errW_none, errW_some] <;> rfl) | (simp only [← hji20]; first | rfl | (simp [errW_none, errW_some] <;> rfl)) | (simp [*, errW_none, errW_some] <;> rfl), by (with_reducible repeat (first | apply Kd.R_alloc | apply Kd.R_drewN | apply Kd.R_drew)); exact Kd.R_mono (Kd.R_far (p := ⟨gb163, 4, none⟩) (Kd.R_far (p := ⟨gb163, 3, none⟩) (Kd.R_far (p := ⟨gb163, 2, none⟩) (Kd.R_far (p := ⟨gb163, 1, none⟩) (Kd.R_far (p := ⟨gb163, 0, none⟩) (Kd.R_far (p := ⟨gb166, 4, none⟩) (Kd.R_far (p := ⟨gb166, 3, none⟩) (Kd.R_far (p := ⟨gb166, 2, none⟩) (Kd.R_far (p := ⟨gb166, 1, none⟩) (Kd.R_far (p := ⟨gb166, 0, none⟩) (Kd.R_types (Kd.R_types HO203.out BK166.out (by decide)) BK163.out (by decide)) (fun _ hk => hk.1.2) (.slice Ao90 t201.length co90)) (fun _ hk => hk.1.2) (.slice Ao92 t204.length co92)) (fun _ hk => hk.1.2) (.slice Ao93 t207.length co93)) (fun _ hk => hk.1.2) (.slice Ao94 t210.length co94)) (fun _ hk => hk.1.2) (.slice Ao95 t213.length co95)) (fun _ hk => hk.2) (.slice Ao90 t201.length co90)) (fun _ hk => hk.2) (.slice Ao92 t204.length co92)) (fun _ hk => hk.2) (.slice Ao93 t207.length co93)) (fun _ hk => hk.2) (.slice Ao94 t210.length co94)) (fun _ hk => hk.2) (.slice Ao95 t213.length co95)) (fun _ hk => hk.1.1), by (with_reducible repeat (first | apply Kd.R_alloc | apply Kd.R_drewN | apply Kd.R_drew)); exact Kd.R_mono (Kd.R_far (p := ⟨gb163, 4, none⟩) (Kd.R_far (p := ⟨gb163, 3, none⟩) (Kd.R_far (p := ⟨gb163, 2, none⟩) (Kd.R_far (p := ⟨gb163, 1, none⟩) (Kd.R_far (p := ⟨gb163, 0, none⟩) (Kd.R_far (p := ⟨gb166, 4, none⟩) (Kd.R_far (p := ⟨gb166, 3, none⟩) (Kd.R_far (p := ⟨gb166, 2, none⟩) (Kd.R_far (p := ⟨gb166, 1, none⟩) (Kd.R_far (p := ⟨gb166, 0, none⟩) (Kd.R_types (Kd.R_types HO206.out BK166.out (by decide)) BK163.out (by decide)) (fun _ hk => hk.1.2) (.slice Ao90 t201.length co90)) (fun _ hk => hk.1.2) (.slice Ao92 t204.length co92)) (fun _ hk => hk.1.2) (.slice Ao93 t207.length co93)) (fun _ hk => hk.1.2) (.slice Ao94 t210.length co94)) (fun _ hk => hk.1.2) (.slice Ao95 t213.length co95)) (fun _ hk => hk.2) (.slice Ao90 t201.length co90)) (fun _ hk => hk.2) (.slice Ao92 t204.length co92)) (fun _ hk => hk.2) (.slice Ao93 t207.length co93)) (fun _ hk => hk.2) (.slice Ao94 t210.length co94)) (fun _ hk => hk.2) (.slice Ao95 t213.length co95)) (fun _ hk => ⟨hk.1.1.1, hk.1.1.2⟩), by (with_reducible repeat (first | apply Kd.R_alloc | apply Kd.R_drewN | apply Kd.R_drew)); exact Kd.R_mono (Kd.R_far (p := ⟨gb163, 4, none⟩) (Kd.R_far (p := ⟨gb163, 3, none⟩) (Kd.R_far (p := ⟨gb163, 2, none⟩) (Kd.R_far (p := ⟨gb163, 1, none⟩) (Kd.R_far (p := ⟨gb163, 0, none⟩) (Kd.R_far (p := ⟨gb166, 4, none⟩) (Kd.R_far (p := ⟨gb166, 3, none⟩) (Kd.R_far (p := ⟨gb166, 2, none⟩) (Kd.R_far (p := ⟨gb166, 1, none⟩) (Kd.R_far (p := ⟨gb166, 0, none⟩) (Kd.R_types (Kd.R_types HO209.out BK166.out (by decide)) BK163.out (by decide)) (fun _ hk => hk.1.2) (.slice Ao90 t201.length co90)) (fun _ hk => hk.1.2) (.slice Ao92 t204.length co92)) (fun _ hk => hk.1.2) (.slice Ao93 t207.length co93)) (fun _ hk => hk.1.2) (.slice Ao94 t210.length co94)) (fun _ hk => hk.1.2) (.slice Ao95 t213.length co95)) (fun _ hk => hk.2) (.slice Ao90 t201.length co90)) (fun _ hk => hk.2) (.slice Ao92 t204.length co92)) (fun _ hk => hk.2) (.slice Ao93 t207.length co93)) (fun _ hk => hk.2) (.slice Ao94 t210.length co94)) (fun _ hk => hk.2) (.slice Ao95 t213.length co95)) (fun _ hk => ⟨hk.1.1.1, hk.1.1.2⟩), by (with_reducible repeat (first | apply Kd.R_alloc | apply Kd.R_drewN | apply Kd.R_drew)); exact Kd.R_mono (Kd.R_far (p := ⟨gb163, 4, none⟩) (Kd.R_far (p := ⟨gb163, 3, none⟩) (Kd.R_far (p := ⟨gb163, 2, none⟩) (Kd.R_far (p := ⟨gb163, 1, none⟩) (Kd.R_far (p := ⟨gb163, 0, none⟩) (Kd.R_far (p := ⟨gb166, 4, none⟩) (Kd.R_far (p := ⟨gb166, 3, none⟩) (Kd.R_far (p := ⟨gb166, 2, none⟩) (Kd.R_far (p := ⟨gb166, 1, none⟩) (Kd.R_far (p := ⟨gb166, 0, none⟩) (Kd.R_types (Kd.R_types HO212.out BK166.out (by decide)) BK163.out (by decide)) (fun _ hk => hk.1.2) (.slice Ao90 t201.length co90)) (fun _ hk => hk.1.2) (.slice Ao92 t204.length co92)) (fun _ hk => hk.1.2) (.slice Ao93 t207.length co93)) (fun _ hk => hk.1.2) (.slice Ao94 t210.length co94)) (fun _ hk => hk.1.2) (.slice Ao95 t213.length co95)) (fun _ hk => hk.2) (.slice Ao90 t201.length co90)) (fun _ hk => hk.2) (.slice Ao92 t204.length co92)) (fun _ hk => hk.2) (.slice Ao93 t207.length co93)) (fun _ hk => hk.2) (.slice Ao94 t210.length co94)) (fun _ hk => hk.2) (.slice Ao95 t213.length co95)) (fun _ hk => hk.1.1), by (with_reducible repeat (first | apply Kd.R_alloc | apply Kd.R_drewN | apply Kd.R_drew)); exact Kd.R_mono (Kd.R_far (p := ⟨gb163, 4, none⟩) (Kd.R_far (p := ⟨gb163, 3, none⟩) (Kd.R_far (p := ⟨gb163, 2, none⟩) (Kd.R_far (p := ⟨gb163, 1, none⟩) (Kd.R_far (p := ⟨gb163, 0, none⟩) (Kd.R_far (p := ⟨gb166, 4, none⟩) (Kd.R_far (p := ⟨gb166, 3, none⟩) (Kd.R_far (p := ⟨gb166, 2, none⟩) (Kd.R_far (p := ⟨gb166, 1, none⟩) (Kd.R_far (p := ⟨gb166, 0, none⟩) (Kd.R_types (Kd.R_types HO215.out BK166.out (by decide)) BK163.out (by decide)) (fun _ hk => hk.1.2) (.slice Ao90 t201.length co90)) (fun _ hk => hk.1.2) (.slice Ao92 t204.length co92)) (fun _ hk => hk.1.2) (.slice Ao93 t207.length co93)) (fun _ hk => hk.1.2) (.slice Ao94 t210.length co94)) (fun _ hk => hk.1.2) (.slice Ao95 t213.length co95)) (fun _ hk => hk.2) (.slice Ao90 t201.length co90)) (fun _ hk => hk.2) (.slice Ao92 t204.length co92)) (fun _ hk => hk.2) (.slice Ao93 t207.length co93)) (fun _ hk => hk.2) (.slice Ao94 t210.length co94)) (fun _ hk => hk.2) (.slice Ao95 t213.length co95)) (fun _ hk => ⟨hk.1.1.1, hk.1.1.2⟩), by repeat (first | (with_reducible first | exact HB.out | apply below_alloc | apply pw_below_drewN | apply below_drew1 | refine below_set ?_ GE162.out | refine below_set ?_ GE163.out | refine below_set ?_ GE166.out) | exact HB.out)⟩
                   ·rw [if_neg c29] at H
                    exact absurd H (by simp)
                  ·rw [if_neg c28] at H
                   exact absurd H (by simp)
                 ·rw [if_neg c26] at H
                  exact absurd H (by simp)
                ·rw [if_neg c25] at H
                 exact absurd H (by simp)
               ·rw [if_neg c23] at H
                exact absurd H (by simp)
              ·rw [if_neg c22] at H
               exact absurd H (by simp)
             ·rw [if_neg c21] at H
              exact absurd H (by simp)
            ·rw [if_neg c19] at H
             exact absurd H (by simp)
           ·exact absurd HCASE.out c18
          ·rw [if_neg c17] at H
           exact absurd H (by simp)
         ·rw [if_neg c16] at H
          exact absurd H (by simp)
        ·rw [if_neg c15] at H
         exact absurd H (by simp)
       ·rw [if_neg c14] at H
        exact absurd H (by simp)
      ·rw [if_neg c13] at H
       exact absurd H (by simp)
     ·rw [if_neg c11] at H
      exact absurd H (by simp)
    ·rw [if_neg c10] at H
     exact absurd H (by simp)
   ·rw [if_neg c8] at H
    exact absurd H (by simp)
  ·rw [if_neg c7] at H
   exact absurd H (by simp)
 ·rw [if_neg c6] at H
  exact absurd H (by simp)
end Go.Proofs.Ytjhgknagmiekeaa.K
