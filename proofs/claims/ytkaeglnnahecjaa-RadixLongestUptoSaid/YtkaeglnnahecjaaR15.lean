/- radix: built at memory. -/
import Derived.Test.YtkaeglnnahecjaaP6
set_option linter.unusedVariables false
set_option linter.unusedSimpArgs false
namespace Go.Proofs.Ytkaeglnnahecjaa.T
open Go.RowKit Go.Lib Go.Proofs Go.Proofs.YtkaeglnnahecjaaW.PrintWords

/-- a slice of texts, as it reads -/
def Strs (w : World) (A : Option Addr) (l : List ByteArray) : Prop := ∀ i (h : i < l.length), ∃ ad, A = some ad ∧ w.cell? (ad.add i) = some (.string l[i])
theorem Strs.keep {w w' : World} {A : Option Addr} {l : List ByteArray} (h : Strs w A l) (k : Kept w w') : Strs w' A l := fun i hi => by
  obtain ⟨ad, h1, h2⟩ := h i hi
  exact ⟨ad, h1, k.cell h2⟩
def IntVals (root : Nd) : Prop := ∀ r l, findT root r = some l → ∃ v : Int, l.val = .int .i64 v
theorem vals_empty (b : Nat) (m : Value) : IntVals (emptyN b m) := fun r l h => by
  by_cases e : r = []
  · subst e; rw [findT_nil] at h; cases h
  · rw [findT_eq _ _ e] at h; cases h
theorem vals_ins {root : Nd} (hg : Good root) (h : IntVals root) (k : ByteArray) (l : Lf) (v : Int) (hl : l.val = .int .i64 v) (ns : Sup) : IntVals (insN root k l ns) := fun r l' e => by
  rw [find_ins k.size k (Nat.le_refl _) root hg.ok l ns r] at e
  by_cases er : r = L k
  · rw [if_pos er] at e; cases e; exact ⟨v, hl⟩
  · rw [if_neg er] at e; exact h r l' e
/-- a tree of whole numbers, as the program's calls make it -/
structure IntTree (w : World) (tb : Nat) (root : Nd) (size : Int) : Prop where
  at_ : TrAt w tb root size
  good : Good root
  vals : IntVals root
theorem incr_range (b : Bool) : 0 ≤ incr b ∧ incr b ≤ 1 := by cases b <;> simp [incr]
set_option maxHeartbeats 4000000 in
set_option maxRecDepth 100000 in
theorem built (w : World) (A : Option Addr) (c : Nat) (ks : List ByteArray) (hA : Strs w A ks) (hn : ks.length < 1000000000000) (hk : ∀ k ∈ ks, k.size < 4000000000000) :
    Calls Try.prog 12 #[.slice A ks.length c] w fun e w' => ∃ tb root size, e = .returned (ptr tb) ∧ IntTree w' tb root size ∧ 0 ≤ size ∧ size ≤ ks.length ∧ Below w.heap.size w w' := by
  have HA := Aside0.mk hA
  have HK := Aside0.mk hk
  have q0 := Aside0.mk (treeNew w)
  obtain ⟨n, en⟩ : ∃ n, ks.length = n := ⟨_, rfl⟩
  have HN := Aside0.mk en
  rw [en] at hn ⊢
  clear hA hk en
  go_enter Try.func12, Try.ntmps12
  go_wp2_with (go_at_call 32; refine q0.out.mono ?_)
  rintro e w1 ⟨tb, b, m, rfl, ht, hm, hb1, hb2, hB⟩
  have H1 := Aside0.mk (And.intro (IntTree.mk ht (good_empty b m) (vals_empty b m)) hB)
  clear ht hm hb1 hb2 hB q0
  unfold ptr
  go_wp2_with fail
  go_loopg [3, 9] (n + 1) (fun kq v3 v9 w' => ∃ (i tb : Nat) (root : Nd) (size : Int), v3 = .pointer (some ⟨tb, 0, none⟩) ∧ v9 = .int .i64 (i : Int) ∧ Aside0 (i + kq = n + 1 ∧ i ≤ n) ∧ Aside0 (IntTree w' tb root size ∧ 0 ≤ size ∧ size ≤ i) ∧ Aside0 (Below w.heap.size w w'))
  case atStart => exact ⟨0, tb, emptyN b m, 0, rfl, rfl, ⟨by omega⟩, ⟨H1.out.1, by omega, by omega⟩, ⟨H1.out.2⟩⟩
  case round =>
    obtain ⟨i, tb, root, size, rfl, rfl, HI, HT, HB⟩ := hrel
    by_cases hi : i < n
    · have hi' : i < ks.length := by rw [HN.out]; exact hi
      obtain ⟨ad, ea, ka⟩ := (HA.out.keep (Kept.of HB.out)) i hi'
      obtain ⟨k, ek⟩ : ∃ k, ks[i] = k := ⟨_, rfl⟩
      rw [ek] at ka
      have hks : k.size < 4000000000000 := HK.out k (by rw [← ek]; exact List.getElem_mem _)
      subst ea
      have q1 := Aside0.mk (treeInsert wr tb root size (i : Int) k HT.out.1.at_ HT.out.1.good.ok HT.out.1.good.sm hks HT.out.2.1 (by have := HT.out.2.2; have := HI.out; omega))
      clear ek hi'
      unfold ptr at q1
      go_wp2_with (go_at_call 36; refine q1.out.mono ?_)
      rintro e w2 ⟨tb2, lb, m2, ns, had, old, rfl, ht, ho, h1, h2, h3, h4, h5⟩
      have H2 := Aside0.mk (And.intro (IntTree.mk ht (good_ins HT.out.1.good k hks ⟨lb, k, .int .i64 (i : Int), m2⟩ rfl ns) (vals_ins HT.out.1.good HT.out.1.vals k ⟨lb, k, .int .i64 (i : Int), m2⟩ i rfl ns)) h5)
      clear ht ho h1 h2 h3 h4 h5 q1
      go_wp2_with fail
      go_roundg (n - i)
      case measure => have := HI.out; omega
      case rel =>
        have hr := incr_range had
        have hs := HT.out.2
        exact ⟨i + 1, tb2, _, size + incr had, rfl, by simp, ⟨by have := HI.out; omega⟩, ⟨H2.out.1, by omega, by omega⟩, ⟨HB.out.trans ⟨H2.out.2.os, H2.out.2.tape, H2.out.2.output, H2.out.2.size, fun x hx => H2.out.2.block x (by have := HB.out.size; omega)⟩⟩⟩
    · have hin : i = n := by have := HI.out; omega
      subst hin
      go_wp2_with fail
      go_ret
      exact ⟨tb, root, size, rfl, HT.out.1, HT.out.2.1, HT.out.2.2, HB.out⟩
end Go.Proofs.Ytkaeglnnahecjaa.T
