/- radix: the example of radixAlive, reckoned. -/
import Derived.Test.YtkaeglnnahecjaaR15
set_option linter.unusedVariables false
set_option linter.unusedSimpArgs false
namespace Go.Proofs.Ytkaeglnnahecjaa.T
open Go.RowKit Go.Lib Go.Proofs Go.Proofs.YtkaeglnnahecjaaW.PrintWords

def kAB : ByteArray := ⟨#[97, 98]⟩
def kABC : ByteArray := ⟨#[97, 98, 99]⟩
def kAX : ByteArray := ⟨#[97, 120]⟩
def kC : ByteArray := ⟨#[99]⟩
def kA : ByteArray := ⟨#[97]⟩
def kB : ByteArray := ⟨#[98]⟩
def kX : ByteArray := ⟨#[120]⟩
def sh0 (b : Nat) (m : Value) : Nd := .mk b ⟨#[]⟩ none [] m
def sh1 (b b1 : Nat) (l0 : Lf) (m m1 : Value) : Nd := .mk b ⟨#[]⟩ none [.mk b1 kAB (some l0) [] m1] m
def sh2 (b b1 b2 : Nat) (l0 l1 : Lf) (m m1 m2 : Value) : Nd := .mk b ⟨#[]⟩ none [.mk b1 kAB (some l0) [.mk b2 kC (some l1) [] m2] m1] m
def sh3 (b b1 b2 b3 b4 : Nat) (l0 l1 l2 : Lf) (m m1 m2 m3 m4 : Value) : Nd := .mk b ⟨#[]⟩ none [.mk b3 kA none [.mk b1 kB (some l0) [.mk b2 kC (some l1) [] m2] m1, .mk b4 kX (some l2) [] m4] m3] m
theorem step1 (b : Nat) (m : Value) (l : Lf) (ns : Sup) : insN (sh0 b m) kAB l ns = sh1 (ns 0).1 (ns 1).1 l (ns 0).2 (ns 1).2 := by
  rw [insN, dif_neg (by decide)]
  rfl
theorem step2 (b b1 : Nat) (l0 : Lf) (m m1 : Value) (l : Lf) (ns : Sup) : insN (sh1 b b1 l0 m m1) kABC l ns = sh2 (ns 0).1 (ns 1).1 (ns 2).1 l0 l (ns 0).2 (ns 1).2 (ns 2).2 := by
  have e1 : kidN (sh1 b b1 l0 m m1) kABC = some (.mk b1 kAB (some l0) [] m1) := rfl
  have e2 : insN (.mk b1 kAB (some l0) [] m1) kC l (fun j => ns (j + 1)) = .mk (ns 1).1 kAB (some l0) [.mk (ns 2).1 kC (some l) [] (ns 2).2] (ns 1).2 := by
    rw [insN, dif_neg (by decide)]
    rfl
  have e3 : kABC.extract (comB kAB kABC) kABC.size = kC := by decide
  rw [insN, dif_neg (by decide)]
  simp only [e1]
  have e4 : 0 < comB (Nd.mk b1 kAB (some l0) [] m1).label kABC ∧ comB (Nd.mk b1 kAB (some l0) [] m1).label kABC = (Nd.mk b1 kAB (some l0) [] m1).label.size := by
    show 0 < comB kAB kABC ∧ comB kAB kABC = kAB.size
    decide
  rw [dif_pos e4]
  have e5 : kABC.extract (comB (Nd.mk b1 kAB (some l0) [] m1).label kABC) kABC.size = kC := e3
  rw [e5, e2]
  rfl
theorem step3 (b b1 b2 : Nat) (l0 l1 : Lf) (m m1 m2 : Value) (l : Lf) (ns : Sup) : insN (sh2 b b1 b2 l0 l1 m m1 m2) kAX l ns = sh3 (ns 0).1 (ns 2).1 b2 (ns 1).1 (ns 3).1 l0 l1 l (ns 0).2 m1 m2 (ns 1).2 (ns 3).2 := by
  have e1 : kidN (sh2 b b1 b2 l0 l1 m m1 m2) kAX = some (.mk b1 kAB (some l0) [.mk b2 kC (some l1) [] m2] m1) := rfl
  rw [insN, dif_neg (by decide)]
  simp only [e1]
  have e4 : ¬ (0 < comB (Nd.mk b1 kAB (some l0) [.mk b2 kC (some l1) [] m2] m1).label kAX ∧ comB (Nd.mk b1 kAB (some l0) [.mk b2 kC (some l1) [] m2] m1).label kAX = (Nd.mk b1 kAB (some l0) [.mk b2 kC (some l1) [] m2] m1).label.size) := by
    show ¬ (0 < comB kAB kAX ∧ comB kAB kAX = kAB.size)
    decide
  rw [dif_neg e4]
  rfl
theorem had1 (b : Nat) (m : Value) : findN (sh0 b m) kAB = none := by
  rw [findN, dif_neg (by decide)]
  rfl
theorem had2 (b b1 : Nat) (l0 : Lf) (m m1 : Value) : findN (sh1 b b1 l0 m m1) kABC = none := by
  have e1 : kidN (sh1 b b1 l0 m m1) kABC = some (.mk b1 kAB (some l0) [] m1) := rfl
  have e2 : findN (.mk b1 kAB (some l0) [] m1) kC = none := by
    rw [findN, dif_neg (by decide)]
    rfl
  rw [findN, dif_neg (by decide)]
  simp only [e1]
  have e4 : 0 < comB (Nd.mk b1 kAB (some l0) [] m1).label kABC ∧ comB (Nd.mk b1 kAB (some l0) [] m1).label kABC = (Nd.mk b1 kAB (some l0) [] m1).label.size := by
    show 0 < comB kAB kABC ∧ comB kAB kABC = kAB.size
    decide
  have e5 : kABC.extract (comB (Nd.mk b1 kAB (some l0) [] m1).label kABC) kABC.size = kC := by
    show kABC.extract (comB kAB kABC) kABC.size = kC
    decide
  rw [dif_pos e4, e5, e2]
theorem had3 (b b1 b2 : Nat) (l0 l1 : Lf) (m m1 m2 : Value) : findN (sh2 b b1 b2 l0 l1 m m1 m2) kAX = none := by
  have e1 : kidN (sh2 b b1 b2 l0 l1 m m1 m2) kAX = some (.mk b1 kAB (some l0) [.mk b2 kC (some l1) [] m2] m1) := rfl
  rw [findN, dif_neg (by decide)]
  simp only [e1]
  have e4 : ¬ (0 < comB (Nd.mk b1 kAB (some l0) [.mk b2 kC (some l1) [] m2] m1).label kAX ∧ comB (Nd.mk b1 kAB (some l0) [.mk b2 kC (some l1) [] m2] m1).label kAX = (Nd.mk b1 kAB (some l0) [.mk b2 kC (some l1) [] m2] m1).label.size) := by
    show ¬ (0 < comB kAB kAX ∧ comB kAB kAX = kAB.size)
    decide
  rw [dif_neg e4]
theorem long3 (b b1 b2 b3 b4 : Nat) (l0 l1 l2 : Lf) (m m1 m2 m3 m4 : Value) : longN (sh3 b b1 b2 b3 b4 l0 l1 l2 m m1 m2 m3 m4) ⟨#[97, 98, 100]⟩ = some l0 := by kernel_rfl
theorem reach3 (b b1 b2 b3 b4 : Nat) (l0 l1 l2 : Lf) (m m1 m2 m3 m4 : Value) : reachN (sh3 b b1 b2 b3 b4 l0 l1 l2 m m1 m2 m3 m4) ⟨#[97, 121]⟩ = 1 := by kernel_rfl
end Go.Proofs.Ytkaeglnnahecjaa.T
