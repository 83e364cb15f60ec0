/- joined: K27d -/
import Derived.Test.YtjhgknagmiekeaaJC2
import Derived.Test.YtjhgknagmiekeaaJC3
-- Written by a program of this session (wip/tools/printfam.py) out of the translation; hand-proved contracts set in. Lean checks it.
namespace Go.Proofs.Ytjhgknagmiekeaa.K
open Go.RowKit Go.Proofs.YtjhgknagmiekeaaW.PrintWords Go.Proofs.YtjhgknagmiekeaaW.PrintLast Go.Proofs.YtjhgknagmiekeaaW.PrintMore
attribute [local go_sem] max2_int min2_int max_two min_two max_three min_three max_four min_four   -- for this text's walks alone
set_option linter.unusedVariables false
set_option linter.unusedSimpArgs false
def musterref03_Insert.f (k : Nat) (l0_0 : List ByteArray) (l0_1 : List Int) (l0_2 : List Int) (l0_3 : List ByteArray) (l0_4 : List Int) (a1 : ByteArray) (a2 : Int) (a3 : Int) : Option (List ByteArray × List Int × List Int × List ByteArray × List Int × Int × Bool × Int) := (musterref03_Find.f k l0_0 a1).bind fun bt164 => (if 0 ≤ bt164.1 then (if bt164.1 ≤ (l0_0.length : Int) then (if ([] : List ByteArray).length + (l0_0.take (bt164.1 : Int).toNat).length < 8796093022208 then ((some (([] : List ByteArray) ++ (l0_0.take (bt164.1 : Int).toNat) : List ByteArray)).bind fun y168 => (if bt164.1 ≤ (l0_1.length : Int) then (if ([] : List Int).length + (l0_1.take (bt164.1 : Int).toNat).length < 17592186044416 then ((some (([] : List Int) ++ (l0_1.take (bt164.1 : Int).toNat) : List Int)).bind fun y172 => (if bt164.1 ≤ (l0_2.length : Int) then (if ([] : List Int).length + (l0_2.take (bt164.1 : Int).toNat).length < 17592186044416 then ((some (([] : List Int) ++ (l0_2.take (bt164.1 : Int).toNat) : List Int)).bind fun y176 => (if y168.length < 8796093022208 then ((some (y168 ++ [a1] : List ByteArray)).bind fun y179 => (if y172.length < 17592186044416 then ((some (y172 ++ [a2] : List Int)).bind fun y182 => (if y176.length < 17592186044416 then ((some (y176 ++ [a3] : List Int)).bind fun y185 => (if bt164.2 = true then (if bt164.1 < (l0_1.length : Int) then (if 0 ≤ (wrap64 (bt164.1 + 1)) then (if (wrap64 (bt164.1 + 1)) ≤ (l0_0.length : Int) then (if y179.length + (l0_0.drop ((wrap64 (bt164.1 + 1)) : Int).toNat).length < 8796093022208 then (if (wrap64 (bt164.1 + 1)) ≤ (l0_1.length : Int) then (if y182.length + (l0_1.drop ((wrap64 (bt164.1 + 1)) : Int).toNat).length < 17592186044416 then (if (wrap64 (bt164.1 + 1)) ≤ (l0_2.length : Int) then (if y185.length + (l0_2.drop ((wrap64 (bt164.1 + 1)) : Int).toNat).length < 17592186044416 then ((musterref03_remade.f k l0_0 l0_1 l0_2 l0_3 l0_4 (y179 ++ (l0_0.drop ((wrap64 (bt164.1 + 1)) : Int).toNat)) (y182 ++ (l0_1.drop ((wrap64 (bt164.1 + 1)) : Int).toNat)) (y185 ++ (l0_2.drop ((wrap64 (bt164.1 + 1)) : Int).toNat)) ([] : List ByteArray) ([] : List Int) a1 (wrap64 (a3 + 1))).bind fun bt201 => (some (bt201.1, bt201.2.1, bt201.2.2.1, bt201.2.2.2.1, bt201.2.2.2.2.1, rd l0_1 bt164.1, bt164.2, bt201.2.2.2.2.2))) else (none)) else (none)) else (none)) else (none)) else (none)) else (none)) else (none)) else (none)) else (if y179.length + (l0_0.drop (bt164.1 : Int).toNat).length < 8796093022208 then (if y182.length + (l0_1.drop (bt164.1 : Int).toNat).length < 17592186044416 then (if y185.length + (l0_2.drop (bt164.1 : Int).toNat).length < 17592186044416 then ((musterref03_remade.f k l0_0 l0_1 l0_2 l0_3 l0_4 (y179 ++ (l0_0.drop (bt164.1 : Int).toNat)) (y182 ++ (l0_1.drop (bt164.1 : Int).toNat)) (y185 ++ (l0_2.drop (bt164.1 : Int).toNat)) ([] : List ByteArray) ([] : List Int) a1 (wrap64 (a3 + 1))).bind fun bt229 => (some (bt229.1, bt229.2.1, bt229.2.2.1, bt229.2.2.2.1, bt229.2.2.2.2.1, 0, bt164.2, bt229.2.2.2.2.2))) else (none)) else (none)) else (none)))) else (none))) else (none))) else (none))) else (none)) else (none))) else (none)) else (none))) else (none)) else (none)) else (none))
theorem musterref03_Insert.mono : ∀ a0 a1 a2 a3 a4 a5 a6 a7 k, LeO (musterref03_Insert.f k a0 a1 a2 a3 a4 a5 a6 a7) (musterref03_Insert.f (k + 1) a0 a1 a2 a3 a4 a5 a6 a7) := by
  intro a0 a1 a2 a3 a4 a5 a6 a7 k
  unfold musterref03_Insert.f
  repeat' first
      | (with_reducible exact musterref03_Find.mono _ _ _)
      | (with_reducible exact musterref03_remade.mono _ _ _ _ _ _ _ _ _ _ _ _ _)
      | (with_reducible exact LeO.refl _)
      | (with_reducible exact LeO.none _)
      | (with_reducible refine LeO.ite ?_ ?_)
      | (with_reducible refine LeO.bind ?_ (fun _ => ?_))
      | exact musterref03_Find.mono _ _ _
      | exact musterref03_remade.mono _ _ _ _ _ _ _ _ _ _ _ _ _
      | exact LeO.none _
      | refine LeO.ite ?_ ?_
      | refine LeO.bind ?_ (fun _ => ?_)
def musterref03_Insert.T3 : Bool × List (List Nat × List Nat) := (true, [([], []), ([0], [0]), ([], []), ([2], [2]), ([], []), ([3, 4], [3, 4]), ([1, 5], [1, 5]), ([0, 1, 2, 3, 4, 5, 6], []), ([7, 6, 6, 0, 1, 2, 3, 4, 5, 6], [6, 7])])
def musterref03_Insert.B3 : List Nat := [0, 1, 0, 4, 0, 28, 63, 127, 255]
theorem musterref03_Insert.tab3 : rtab .any (opsOf Try.f66 3) = musterref03_Insert.T3 := by kernel_rfl
theorem musterref03_Insert.bits3 : waitsOk musterref03_Insert.T3.2 musterref03_Insert.B3 = true := by kernel_rfl
def musterref03_Insert.T4 : Bool × List (List Nat × List Nat) := (true, [([], []), ([0], [0]), ([], []), ([2], [2]), ([], []), ([3, 4], [3, 4]), ([1, 5], [1, 5]), ([0, 1, 2, 3, 4, 5, 6], []), ([7, 6, 6, 0, 1, 2, 3, 4, 5, 6], [6, 7])])
def musterref03_Insert.B4 : List Nat := [0, 1, 0, 4, 0, 28, 63, 127, 255]
theorem musterref03_Insert.tab4 : rtab .any (opsOf Try.f66 4) = musterref03_Insert.T4 := by kernel_rfl
theorem musterref03_Insert.bits4 : waitsOk musterref03_Insert.T4.2 musterref03_Insert.B4 = true := by kernel_rfl
def musterref03_Insert.T5 : Bool × List (List Nat × List Nat) := (true, [([], []), ([0], [0]), ([], []), ([2], [2]), ([], []), ([3, 4], [3, 4]), ([1, 5], [1, 5]), ([0, 1, 2, 3, 4, 5, 6], []), ([7, 6, 6, 0, 1, 2, 3, 4, 5, 6], [6, 7])])
def musterref03_Insert.B5 : List Nat := [0, 1, 0, 4, 0, 28, 63, 127, 255]
theorem musterref03_Insert.tab5 : rtab .any (opsOf Try.f66 5) = musterref03_Insert.T5 := by kernel_rfl
theorem musterref03_Insert.bits5 : waitsOk musterref03_Insert.T5.2 musterref03_Insert.B5 = true := by kernel_rfl
def musterref03_Insert.T14 : Bool × List (List Nat × List Nat) := (true, [([], []), ([0], [0]), ([], []), ([2], [2]), ([], []), ([3, 4], [3, 4]), ([1, 5], [1, 5]), ([0, 1, 2, 3, 4, 5, 6], []), ([7, 6, 6, 0, 1, 2, 3, 4, 5, 6], [6, 7])])
def musterref03_Insert.B14 : List Nat := [0, 1, 0, 4, 0, 28, 63, 127, 255]
theorem musterref03_Insert.tab14 : rtab .any (opsOf Try.f66 14) = musterref03_Insert.T14 := by kernel_rfl
theorem musterref03_Insert.bits14 : waitsOk musterref03_Insert.T14.2 musterref03_Insert.B14 = true := by kernel_rfl
def musterref03_Insert.T15 : Bool × List (List Nat × List Nat) := (true, [([], []), ([0], [0]), ([], []), ([2], [2]), ([], []), ([3, 4], [3, 4]), ([1, 5], [1, 5]), ([0, 1, 2, 3, 4, 5, 6], []), ([7, 6, 6, 0, 1, 2, 3, 4, 5, 6], [6, 7])])
def musterref03_Insert.B15 : List Nat := [0, 1, 0, 4, 0, 28, 63, 127, 255]
theorem musterref03_Insert.tab15 : rtab .any (opsOf Try.f66 15) = musterref03_Insert.T15 := by kernel_rfl
theorem musterref03_Insert.bits15 : waitsOk musterref03_Insert.T15.2 musterref03_Insert.B15 = true := by kernel_rfl
def musterref03_Insert.T16 : Bool × List (List Nat × List Nat) := (true, [([], []), ([0], [0]), ([], []), ([2], [2]), ([], []), ([3, 4], [3, 4]), ([1, 5], [1, 5]), ([0, 1, 2, 3, 4, 5, 6], []), ([7, 6, 6, 0, 1, 2, 3, 4, 5, 6], [6, 7])])
def musterref03_Insert.B16 : List Nat := [0, 1, 0, 4, 0, 28, 63, 127, 255]
theorem musterref03_Insert.tab16 : rtab .any (opsOf Try.f66 16) = musterref03_Insert.T16 := by kernel_rfl
theorem musterref03_Insert.bits16 : waitsOk musterref03_Insert.T16.2 musterref03_Insert.B16 = true := by kernel_rfl
end Go.Proofs.Ytjhgknagmiekeaa.K
