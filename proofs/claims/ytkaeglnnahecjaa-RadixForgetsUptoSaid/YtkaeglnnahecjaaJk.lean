/- joined: R16 R18 -/
import Derived.Test.YtkaeglnnahecjaaJg
/- radix: the example of radixAlive, reckoned. -/
set_option linter.unusedVariables false
set_option linter.unusedSimpArgs false
namespace Go.Proofs.Ytkaeglnnahecjaa.T
open Go.RowKit Go.Lib Go.Proofs Go.Proofs.YtkaeglnnahecjaaW.PrintWords

def kAB : ByteArray := ⟨#[97, 98]⟩
def kABC : ByteArray := ⟨#[97, 98, 99]⟩
def kAX : ByteArray := ⟨#[97, 120]⟩
def kC : ByteArray := ⟨#[99]⟩
def kA : ByteArray := ⟨#[97]⟩
def kB : ByteArray := ⟨#[98]⟩
def kX : ByteArray := ⟨#[120]⟩
def sh0 (b : Nat) (m : Value) : Nd := .mk b ⟨#[]⟩ none [] m
def sh1 (b b1 : Nat) (l0 : Lf) (m m1 : Value) : Nd := .mk b ⟨#[]⟩ none [.mk b1 kAB (some l0) [] m1] m
def sh2 (b b1 b2 : Nat) (l0 l1 : Lf) (m m1 m2 : Value) : Nd := .mk b ⟨#[]⟩ none [.mk b1 kAB (some l0) [.mk b2 kC (some l1) [] m2] m1] m
def sh3 (b b1 b2 b3 b4 : Nat) (l0 l1 l2 : Lf) (m m1 m2 m3 m4 : Value) : Nd := .mk b ⟨#[]⟩ none [.mk b3 kA none [.mk b1 kB (some l0) [.mk b2 kC (some l1) [] m2] m1, .mk b4 kX (some l2) [] m4] m3] m
theorem step1 (b : Nat) (m : Value) (l : Lf) (ns : Sup) : insN (sh0 b m) kAB l ns = sh1 (ns 0).1 (ns 1).1 l (ns 0).2 (ns 1).2 := by
  rw [insN, dif_neg (by decide)]
  rfl
theorem step2 (b b1 : Nat) (l0 : Lf) (m m1 : Value) (l : Lf) (ns : Sup) : insN (sh1 b b1 l0 m m1) kABC l ns = sh2 (ns 0).1 (ns 1).1 (ns 2).1 l0 l (ns 0).2 (ns 1).2 (ns 2).2 := by
  have e1 : kidN (sh1 b b1 l0 m m1) kABC = some (.mk b1 kAB (some l0) [] m1) := rfl
  have e2 : insN (.mk b1 kAB (some l0) [] m1) kC l (fun j => ns (j + 1)) = .mk (ns 1).1 kAB (some l0) [.mk (ns 2).1 kC (some l) [] (ns 2).2] (ns 1).2 := by
    rw [insN, dif_neg (by decide)]
    rfl
  have e3 : kABC.extract (comB kAB kABC) kABC.size = kC := by decide
  rw [insN, dif_neg (by decide)]
  simp only [e1]
  have e4 : 0 < comB (Nd.mk b1 kAB (some l0) [] m1).label kABC ∧ comB (Nd.mk b1 kAB (some l0) [] m1).label kABC = (Nd.mk b1 kAB (some l0) [] m1).label.size := by
    show 0 < comB kAB kABC ∧ comB kAB kABC = kAB.size
    decide
  rw [dif_pos e4]
  have e5 : kABC.extract (comB (Nd.mk b1 kAB (some l0) [] m1).label kABC) kABC.size = kC := e3
  rw [e5, e2]
  rfl
theorem step3 (b b1 b2 : Nat) (l0 l1 : Lf) (m m1 m2 : Value) (l : Lf) (ns : Sup) : insN (sh2 b b1 b2 l0 l1 m m1 m2) kAX l ns = sh3 (ns 0).1 (ns 2).1 b2 (ns 1).1 (ns 3).1 l0 l1 l (ns 0).2 m1 m2 (ns 1).2 (ns 3).2 := by
  have e1 : kidN (sh2 b b1 b2 l0 l1 m m1 m2) kAX = some (.mk b1 kAB (some l0) [.mk b2 kC (some l1) [] m2] m1) := rfl
  rw [insN, dif_neg (by decide)]
  simp only [e1]
  have e4 : ¬ (0 < comB (Nd.mk b1 kAB (some l0) [.mk b2 kC (some l1) [] m2] m1).label kAX ∧ comB (Nd.mk b1 kAB (some l0) [.mk b2 kC (some l1) [] m2] m1).label kAX = (Nd.mk b1 kAB (some l0) [.mk b2 kC (some l1) [] m2] m1).label.size) := by
    show ¬ (0 < comB kAB kAX ∧ comB kAB kAX = kAB.size)
    decide
  rw [dif_neg e4]
  rfl
theorem had1 (b : Nat) (m : Value) : findN (sh0 b m) kAB = none := by
  rw [findN, dif_neg (by decide)]
  rfl
theorem had2 (b b1 : Nat) (l0 : Lf) (m m1 : Value) : findN (sh1 b b1 l0 m m1) kABC = none := by
  have e1 : kidN (sh1 b b1 l0 m m1) kABC = some (.mk b1 kAB (some l0) [] m1) := rfl
  have e2 : findN (.mk b1 kAB (some l0) [] m1) kC = none := by
    rw [findN, dif_neg (by decide)]
    rfl
  rw [findN, dif_neg (by decide)]
  simp only [e1]
  have e4 : 0 < comB (Nd.mk b1 kAB (some l0) [] m1).label kABC ∧ comB (Nd.mk b1 kAB (some l0) [] m1).label kABC = (Nd.mk b1 kAB (some l0) [] m1).label.size := by
    show 0 < comB kAB kABC ∧ comB kAB kABC = kAB.size
    decide
  have e5 : kABC.extract (comB (Nd.mk b1 kAB (some l0) [] m1).label kABC) kABC.size = kC := by
    show kABC.extract (comB kAB kABC) kABC.size = kC
    decide
  rw [dif_pos e4, e5, e2]
theorem had3 (b b1 b2 : Nat) (l0 l1 : Lf) (m m1 m2 : Value) : findN (sh2 b b1 b2 l0 l1 m m1 m2) kAX = none := by
  have e1 : kidN (sh2 b b1 b2 l0 l1 m m1 m2) kAX = some (.mk b1 kAB (some l0) [.mk b2 kC (some l1) [] m2] m1) := rfl
  rw [findN, dif_neg (by decide)]
  simp only [e1]
  have e4 : ¬ (0 < comB (Nd.mk b1 kAB (some l0) [.mk b2 kC (some l1) [] m2] m1).label kAX ∧ comB (Nd.mk b1 kAB (some l0) [.mk b2 kC (some l1) [] m2] m1).label kAX = (Nd.mk b1 kAB (some l0) [.mk b2 kC (some l1) [] m2] m1).label.size) := by
    show ¬ (0 < comB kAB kAX ∧ comB kAB kAX = kAB.size)
    decide
  rw [dif_neg e4]
theorem long3 (b b1 b2 b3 b4 : Nat) (l0 l1 l2 : Lf) (m m1 m2 m3 m4 : Value) : longN (sh3 b b1 b2 b3 b4 l0 l1 l2 m m1 m2 m3 m4) ⟨#[97, 98, 100]⟩ = some l0 := by kernel_rfl
theorem reach3 (b b1 b2 b3 b4 : Nat) (l0 l1 l2 : Lf) (m m1 m2 m3 m4 : Value) : reachN (sh3 b b1 b2 b3 b4 l0 l1 l2 m m1 m2 m3 m4) ⟨#[97, 121]⟩ = 1 := by kernel_rfl
end Go.Proofs.Ytkaeglnnahecjaa.T
/- radix: radixAlive returns true. -/
set_option linter.unusedVariables false
set_option linter.unusedSimpArgs false
namespace Go.Proofs.Ytkaeglnnahecjaa.T
open Go.RowKit Go.Lib Go.Proofs Go.Proofs.YtkaeglnnahecjaaW.PrintWords

def key3 : Nat → ByteArray
  | 0 => kAB
  | 1 => kABC
  | _ => kAX
def Shape : Nat → Nd → Prop
  | 0, r => ∃ b m, r = sh0 b m
  | 1, r => ∃ b b1 l0 m m1, r = sh1 b b1 l0 m m1 ∧ l0.key = kAB ∧ l0.val = .int .i64 7
  | 2, r => ∃ b b1 b2 l0 l1 m m1 m2, r = sh2 b b1 b2 l0 l1 m m1 m2 ∧ l0.key = kAB ∧ l0.val = .int .i64 7
  | _, r => ∃ b b1 b2 b3 b4 l0 l1 l2 m m1 m2 m3 m4, r = sh3 b b1 b2 b3 b4 l0 l1 l2 m m1 m2 m3 m4 ∧ l0.key = kAB ∧ l0.val = .int .i64 7
theorem shape_next (i : Nat) (hi : i < 3) (r : Nd) (h : Shape i r) : findN r (key3 i) = none ∧ ∀ (l : Lf) ns, l.key = key3 i → l.val = .int .i64 (7 + (i : Int)) → Shape (i + 1) (insN r (key3 i) l ns) := by
  match i, hi, h with
  | 0, _, h =>
    obtain ⟨b, m, rfl⟩ := h
    exact ⟨had1 b m, fun l ns h1 h2 => ⟨_, _, l, _, _, step1 b m l ns, h1, h2⟩⟩
  | 1, _, h =>
    obtain ⟨b, b1, l0, m, m1, rfl, h1, h2⟩ := h
    exact ⟨had2 _ _ _ _ _, fun l ns _ _ => ⟨_, _, _, l0, l, _, _, _, step2 _ _ _ _ _ _ _, h1, h2⟩⟩
  | 2, _, h =>
    obtain ⟨b, b1, b2, l0, l1, m, m1, m2, rfl, h1, h2⟩ := h
    exact ⟨had3 _ _ _ _ _ _ _ _, fun l ns _ _ => ⟨_, _, _, _, _, l0, l1, l, _, _, _, _, _, step3 _ _ _ _ _ _ _ _ _ _, h1, h2⟩⟩
theorem key3_size (i : Nat) : (key3 i).size < 4000000000000 := by
  match i with
  | 0 => decide
  | 1 => decide
  | n + 2 => show kAX.size < _; decide
def threeO : Obj := .cells #[.string ⟨#[97, 98]⟩, .string ⟨#[97, 98, 99]⟩, .string ⟨#[97, 120]⟩] 9
theorem three_cell {w : World} {g : Nat} (h : w.heap[g]? = some threeO) (i : Nat) (hi : i < 3) : w.cell? ⟨g, i, none⟩ = some (.string (key3 i)) := by
  unfold threeO at h
  rw [blk_cell h]
  match i, hi with
  | 0, _ => rfl
  | 1, _ => rfl
  | 2, _ => rfl
set_option maxHeartbeats 8000000 in
set_option maxRecDepth 100000 in
theorem alive (w : World) : Calls Try.prog 11 #[] w fun e w' => e = .returned (.bool true) ∧ Below w.heap.size w w' := by
  have q0 := Aside0.mk (treeNew w)
  go_enter Try.func11, Try.ntmps11
  go_wp2_with (go_at_call 32; refine q0.out.mono ?_)
  rintro e w1 ⟨tb, b, m, rfl, ht, hm, hb1, hb2, hB⟩
  have q1 := Aside0.mk (treeLen w1 tb (emptyN b m) 0 ht)
  have H1 := Aside0.mk (And.intro ht hB)
  clear ht hm hb1 hb2 hB q0
  unfold ptr at q1 ⊢
  go_wp2_with (go_at_call 24; refine q1.out.mono ?_; rintro e w2 ⟨rfl, hw2⟩; subst hw2)
  clear q1
  have ht0 := H1.out.1.keep (Kept.of ((Below.refl _ w2).alloc (Nat.le_refl _) threeO))
  have HT0 := Aside0.mk ht0
  clear ht0
  go_loopg [1, 20] 4 (fun kq v1 v20 w' => ∃ (i tb : Nat) (root : Nd), v1 = .pointer (some ⟨tb, 0, none⟩) ∧ v20 = .int .i64 (i : Int) ∧ Aside0 (i + kq = 4 ∧ i ≤ 3) ∧ Aside0 (TrAt w' tb root i ∧ Good root ∧ Shape i root) ∧ Aside0 (w'.heap[w2.heap.size]? = some threeO ∧ Below w.heap.size w w'))
  case atStart => exact ⟨0, tb, emptyN b m, rfl, rfl, ⟨by omega⟩, ⟨HT0.out, good_empty b m, ⟨b, m, rfl⟩⟩, ⟨heap_alloc_new w2 _, H1.out.2.alloc H1.out.2.size _⟩⟩
  case round =>
    obtain ⟨i, tb, root, rfl, rfl, HI, HT, HB⟩ := hrel
    by_cases hi : i < 3
    · have cc := three_cell HB.out.1 i hi
      have hsn := shape_next i hi root HT.out.2.2
      have q2 := treeInsert wr tb root (i : Int) (7 + (i : Int)) (key3 i) HT.out.1 HT.out.2.1.ok HT.out.2.1.sm (key3_size i) (by omega) (by omega)
      have HSN := Aside0.mk hsn
      have hks := key3_size i
      rw [hsn.1] at q2
      obtain ⟨k, ek⟩ : ∃ k, key3 i = k := ⟨_, rfl⟩
      rw [ek] at q2 cc HSN hks
      have q3 := Aside0.mk q2
      clear hsn q2 ek
      unfold ptr at q3
      go_wp2_with (go_at_call 36; refine q3.out.mono ?_)
      rintro e w3 ⟨tb2, lb, m2, ns, had, old, rfl, ht, ho, h1, h2, h3, h4, h5⟩
      have eh : had = false := by simpa [hadOld] using congrArg Prod.fst ho
      subst eh
      have H2 := Aside0.mk (And.intro ht h5)
      clear ht ho h1 h2 h3 h4 h5 q3
      go_wp2_with fail
      go_roundg (3 - i)
      case measure => have := HI.out; omega
      case rel =>
        refine ⟨i + 1, tb2, _, rfl, by simp, ⟨by have := HI.out; omega⟩, ⟨?_, good_ins HT.out.2.1 k hks ⟨lb, k, .int .i64 (7 + (i : Int)), m2⟩ rfl ns, HSN.out.2 _ ns rfl rfl⟩, ⟨(Kept.of H2.out.2).at HB.out.1, HB.out.2.trans ⟨H2.out.2.os, H2.out.2.tape, H2.out.2.output, H2.out.2.size, fun x hx => H2.out.2.block x (by have := HB.out.2.size; omega)⟩⟩⟩
        have := H2.out.1
        exact this
    · have hi3 : i = 3 := by have := HI.out; omega
      subst hi3
      obtain ⟨b0, b1, b2, b3, b4, l0, l1, l2, m0, m1, m2, m3, m4, er, ek, ev⟩ := HT.out.2.2
      have q2 := treeLongest wr tb root 3 ⟨#[97, 98, 100]⟩ HT.out.1 HT.out.2.1.ok HT.out.2.1.sm HT.out.2.1.top (by decide)
      have el : longN root ⟨#[97, 98, 100]⟩ = some l0 := by rw [er]; exact long3 _ _ _ _ _ _ _ _ _ _ _ _ _
      have et : toldV (some l0) = .tuple #[.string ⟨#[97, 98]⟩, .int .i64 7, .bool true] := by show Value.tuple #[.string l0.key, l0.val, .bool true] = _; rw [ek, ev]; rfl
      rw [el, et] at q2
      have ere : reachN root ⟨#[97, 121]⟩ = 1 := by rw [er]; exact reach3 _ _ _ _ _ _ _ _ _ _ _ _ _
      have HE := Aside0.mk ere
      have q3 := Aside0.mk q2
      clear q2 el et er ek ev ere
      unfold ptr at q3
      go_wp2_with (go_at_call 17; refine q3.out.mono ?_)
      rintro e w3 ⟨rfl, B3⟩
      have ht3 := HT.out.1.keep (Kept.of B3)
      have q4 := Aside0.mk (treeLen w3 tb root 3 ht3)
      have q5 := treeReach w3 tb root 3 ⟨#[97, 121]⟩ ht3 HT.out.2.1.ok HT.out.2.1.sm HT.out.2.1.top (by decide)
      rw [HE.out] at q5
      have exr : (⟨#[97, 121]⟩ : ByteArray).extract 0 1 = ⟨#[97]⟩ := by decide
      rw [exr] at q5
      have q6 := Aside0.mk q5
      have HB3 := Aside0.mk B3
      clear B3 ht3 q5 q3 exr
      unfold ptr at q4 q6
      go_wp2_with (first
        | (go_at_call 24; refine q4.out.mono ?_; rintro e w4 ⟨rfl, hw4⟩; subst hw4)
        | (go_at_call 21; refine q6.out.mono ?_; rintro e w5 ⟨rfl, _, B5⟩; have HB5 := Aside0.mk B5; clear B5))
      go_ret
      have hs3 := HB.out.2.size
      exact ⟨rfl, (HB.out.2.trans ⟨HB3.out.os, HB3.out.tape, HB3.out.output, HB3.out.size, fun x hx => HB3.out.block x (by omega)⟩).trans ⟨HB5.out.os, HB5.out.tape, HB5.out.output, HB5.out.size, fun x hx => HB5.out.block x (by have := HB3.out.size; omega)⟩⟩
end Go.Proofs.Ytkaeglnnahecjaa.T
