-- Written by a program of this session (wip/tools/printfam.py) out of the translation; hand-proved contracts set in; joined by wip/tools/merge.py. Lean checks it.
import Derived.Test.YtjkljhcfbgcgoaaProg
import Derived.Below
import Derived.Deep.Draws
import Derived.Deep.AppendLies
import Derived.Maps.AppendAt
import Derived.OwnWalk
import Derived.Laws.BytesArg
import Derived.Laws.MakeOwn
import Derived.Laws.OwnMore
import Derived.Deep.OwnRows
import Derived.Tactics
import Derived.Lib.ConvBytes
import Derived.Laws.Slices
import Derived.WalkKit
import Derived.KernelRfl
import Derived.RowKit3
import Derived.Deep.LoopGhost
import Derived.Deep.QuietTactic
import Derived.BigQuiet
import Derived.WideLaws
import Derived.Deep.DeepCutAuto
import Derived.Deep.CutBlock
import Derived.Deep.RegionHeld3
import Derived.Laws.Rows
import Derived.Lib.AppendStr
import Derived.ArgAppend
import Derived.Laws.IdiomCopy
import Derived.OrdersHeld
import Derived.Laws.BitsLemmas
import Derived.RowKit
import Derived.Test.YtjkljhcfbgcgoaaHw
import Derived.Test.YtjkljhcfbgcgoaaHs
import Derived.Test.YtjkljhcfbgcgoaaWWords
import Derived.Test.YtjkljhcfbgcgoaaWLast
import Derived.Test.YtjkljhcfbgcgoaaWTab
import Derived.Test.YtjkljhcfbgcgoaaWFour
import Derived.Test.YtjkljhcfbgcgoaaWQPut
import Derived.Test.YtjkljhcfbgcgoaaWApart
import Derived.Test.YtjkljhcfbgcgoaaWArr
import Derived.Test.YtjkljhcfbgcgoaaWZeros
import Derived.Test.YtjkljhcfbgcgoaaWFoot
import Derived.Test.YtjkljhcfbgcgoaaWKept
import Derived.Test.YtjkljhcfbgcgoaaWShare
import Derived.Test.YtjkljhcfbgcgoaaWN
import Derived.Test.YtjkljhcfbgcgoaaWFootNe
import Derived.Test.YtjkljhcfbgcgoaaWAt
import Derived.Test.YtjkljhcfbgcgoaaWEqStruct
import Derived.Test.YtjkljhcfbgcgoaaWRepsOne
import Derived.Test.YtjkljhcfbgcgoaaWInv
import Derived.Test.YtjkljhcfbgcgoaaWInvWords
import Derived.Test.YtjkljhcfbgcgoaaWGuard
import Derived.Test.YtjkljhcfbgcgoaaWNEv
import Derived.Test.YtjkljhcfbgcgoaaWMore
section
namespace Go.Proofs.Ytjkljhcfbgcgoaa.K
open Go.RowKit Go.Proofs.YtjkljhcfbgcgoaaW.PrintWords Go.Proofs.YtjkljhcfbgcgoaaW.PrintLast Go.Proofs.YtjkljhcfbgcgoaaW.PrintMore
attribute [local go_sem] max2_int min2_int max_two min_two max_three min_three max_four min_four   -- for this text's walks alone
set_option linter.unusedVariables false
set_option linter.unusedSimpArgs false



def errW : Option Int → Value
  | none => .nilIface
  | some c => .iface 0 (.int .i64 c)
theorem errW_none : errW none = .nilIface := rfl
theorem errW_some (c : Int) : errW (some c) = .iface 0 (.int .i64 c) := rfl

theorem info5 : (Try.prog.info? 5).map (fun i => (i.zero, i.size, i.bytes)) = some (some (.int .u8 0), 1, 1) := by kernel_rfl
theorem info36 : (Try.prog.info? 36).map (fun i => (i.zero, i.size, i.bytes)) = some (some (.agg #[(.int .i64 0), (.string ⟨#[]⟩), (.int .u64 0)]), 3, 32) := by kernel_rfl
-- the values' own types
/-! #### struct type 36 -/
structure S36 where
  f0 : Int
  f1 : ByteArray
  f2 : Int
def z36 : S36 := ⟨(0 : Int), (⟨#[]⟩ : ByteArray), (0 : Int)⟩
def k36 : Kd S36 := Kd.iso (Kd.pair (Kd.int .i64) (Kd.pair Kd.string (Kd.int .u64))) (fun x : S36 => (x.f0, x.f1, x.f2))
theorem k36_open {w : World} {x : S36} {cs : List Value} (h : k36.K w x cs) : cs = [.int .i64 x.f0, .string x.f1, .int .u64 x.f2] := by
  obtain ⟨_, _, rfl, rfl, ⟨_, _, rfl, rfl, rfl⟩⟩ := h
  exact rfl
theorem k36_openM {w : World} {base : Nat} {ok : Nat → Prop} {x : S36} {cs : List Value} (h : k36.M w base ok x cs) : cs = [.int .i64 x.f0, .string x.f1, .int .u64 x.f2] := by
  obtain ⟨_, _, rfl, rfl, ⟨_, _, rfl, rfl, rfl⟩⟩ := h
  exact rfl
theorem k36_mk (w : World) (x : S36)  : k36.K w x [.int .i64 x.f0, .string x.f1, .int .u64 x.f2] := ⟨[.int .i64 x.f0], [.string x.f1, .int .u64 x.f2], rfl, rfl, ⟨[.string x.f1], [.int .u64 x.f2], rfl, rfl, rfl⟩⟩
theorem k36_mkM (w : World) (base : Nat) (ok : Nat → Prop) (x : S36)  : k36.M w base ok x [.int .i64 x.f0, .string x.f1, .int .u64 x.f2] := ⟨[.int .i64 x.f0], [.string x.f1, .int .u64 x.f2], rfl, rfl, ⟨[.string x.f1], [.int .u64 x.f2], rfl, rfl, rfl⟩⟩
def rd_T36 (xs : List S36) (i : Int) : S36 := xs.getD i.toNat z36
theorem at_T36 {w : World} {A : Option Addr} {n : Nat} {xs : List S36} (h : Kd.C k36 w A n xs) (i : Int) (h0 : 0 ≤ i) (h1 : i < n) : ∃ ad , A = some ad ∧ w.cell? (ad.add (i.toNat * 3)) = some (.int .i64 (rd_T36 xs i).f0) ∧ w.cell? ⟨(ad.add (i.toNat * 3)).block, (ad.add (i.toNat * 3)).off + 1, none⟩ = some (.string (rd_T36 xs i).f1) ∧ w.cell? ⟨(ad.add (i.toNat * 3)).block, (ad.add (i.toNat * 3)).off + 2, none⟩ = some (.int .u64 (rd_T36 xs i).f2) := by
  obtain ⟨ad, c, e, _, hK, hc0⟩ := Kd.C_get h z36 i h0 h1
  have hc : ∀ j u, c[j]? = some u → w.cell? (ad.add (i.toNat * 3 + j)) = some u := hc0
  obtain rfl := k36_open hK
  exact ⟨ad, e, hc 0 _ rfl, by rw [← add_field _ _ 1 (by omega)]; exact hc 1 _ rfl, by rw [← add_field _ _ 2 (by omega)]; exact hc 2 _ rfl⟩

def rd_L5 (xs : List (List S36)) (i : Int) : (List S36) := xs.getD i.toNat ([] : List S36)
theorem at_L5 {w : World} {A : Option Addr} {n : Nat} {xs : List (List S36)} (h : Kd.C (Kd.slice 36 k36) w A n xs) (i : Int) (h0 : 0 ≤ i) (h1 : i < n) : ∃ ad A0 c0, A = some ad ∧ w.cell? (ad.add i.toNat) = some (.slice A0 (rd_L5 xs i).length c0) ∧ (rd_L5 xs i).length ≤ c0 ∧ k36.C w A0 (rd_L5 xs i).length (rd_L5 xs i) := by
  obtain ⟨ad, c, e, _, hK, hc0⟩ := Kd.C_get h ([] : List S36) i h0 h1
  have hc : ∀ j u, c[j]? = some u → w.cell? (ad.add (i.toNat * 1 + j)) = some u := hc0
  obtain ⟨A0, c0, rfl, l0, g0⟩ := hK
  exact ⟨ad, A0, c0, e, by have hq := hc 0 _ rfl; rwa [Nat.mul_one, Nat.add_zero] at hq, l0, g0⟩

end Go.Proofs.Ytjkljhcfbgcgoaa.K
end
section
namespace Go.Proofs.Ytjkljhcfbgcgoaa.K
open Go.RowKit Go.Proofs.YtjkljhcfbgcgoaaW.PrintWords Go.Proofs.YtjkljhcfbgcgoaaW.PrintLast Go.Proofs.YtjkljhcfbgcgoaaW.PrintMore
attribute [local go_sem] max2_int min2_int max_two min_two max_three min_three max_four min_four   -- for this text's walks alone
set_option linter.unusedVariables false
set_option linter.unusedSimpArgs false

theorem eqA36 (d : Nat) (w : World) (x0 y0 : Int) (x1 y1 : ByteArray) (x2 y2 : Int) :
    (Op.equalIn (d + 2) 36 (.agg #[.int .i64 x0, .string x1, .int .u64 x2]) (.agg #[.int .i64 y0, .string y1, .int .u64 y2])).run Try.prog w = .ok (x0 == y0 && (x1.toList == y1.toList && (x2 == y2))) w := by
  refine eqA_of Try.underlying36 (by kernel_rfl) ?_
  refine eqf_cons (by rfl) (by go_simp; rfl) (by go_simp; rfl) (by go_simp) ?_
  refine eqf_cons (by rfl) (by go_simp; rfl) (by go_simp; rfl) (by go_simp) ?_
  exact eqf_last (by rfl) (by go_simp; rfl) (by go_simp; rfl) (by go_simp)
end Go.Proofs.Ytjkljhcfbgcgoaa.K
end
section
namespace Go.Proofs.Ytjkljhcfbgcgoaa.K
open Go.RowKit Go.Proofs.YtjkljhcfbgcgoaaW.PrintWords Go.Proofs.YtjkljhcfbgcgoaaW.PrintLast Go.Proofs.YtjkljhcfbgcgoaaW.PrintMore
attribute [local go_sem] max2_int min2_int max_two min_two max_three min_three max_four min_four   -- for this text's walks alone
set_option linter.unusedVariables false
set_option linter.unusedSimpArgs false

/-! ### keys_After: function 13 -/
-- HAND
def keys_After.l0 : Nat → ByteArray → Option (ByteArray × Bool)
  | 0, _ => none
  | k + 1, x4 => if x4.toList = ([] : List UInt8) then (some ((⟨#[]⟩ : ByteArray), false)) else (if 0 ≤ (wrap64 ((x4.size : Int) - 1)) then (if (wrap64 ((x4.size : Int) - 1)) < (x4.size : Int) then (if (bt x4 (wrap64 ((x4.size : Int) - 1))) = 255 then (if (wrap64 ((x4.size : Int) - 1)) ≤ (x4.size : Int) then (keys_After.l0 k (x4.extract 0 ((wrap64 ((x4.size : Int) - 1)) : Int).toNat)) else (none)) else (if (wrap64 ((x4.size : Int) - 1)) ≤ (x4.size : Int) then ((some (([((bt x4 (wrap64 ((x4.size : Int) - 1))) + 1) % 256] : List Int) : List Int)).bind fun y101 => (if (x4.extract 0 ((wrap64 ((x4.size : Int) - 1)) : Int).toNat).size + (strOfNums y101).size ≤ 9223372036854775807 then (some ((x4.extract 0 ((wrap64 ((x4.size : Int) - 1)) : Int).toNat) ++ (strOfNums y101), true)) else (none))) else (none))) else (none)) else (none))
def keys_After.f (k : Nat) (a0 : ByteArray) : Option (ByteArray × Bool) := keys_After.l0 k a0
theorem keys_After.mono_l : ∀ k, (∀ y0, LeO (keys_After.l0 k y0) (keys_After.l0 (k + 1) y0))
  | 0 => fun _ r h => by simp [keys_After.l0] at h
  | k + 1 => by
    have ih0 := keys_After.mono_l k
    · intro y0
      unfold keys_After.l0
      repeat' first
      | (with_reducible exact ih0 _)
      | (with_reducible exact LeO.refl _)
      | (with_reducible exact LeO.none _)
      | (with_reducible refine LeO.ite ?_ ?_)
      | (with_reducible refine LeO.bind ?_ (fun _ => ?_))
      | exact ih0 _
      | exact LeO.none _
      | refine LeO.ite ?_ ?_
      | refine LeO.bind ?_ (fun _ => ?_)
theorem keys_After.mono : ∀ a0 k, LeO (keys_After.f k a0) (keys_After.f (k + 1) a0) := by
  intro a0 k
  have ih0 := keys_After.mono_l k
  unfold keys_After.f
  repeat' first
      | (with_reducible exact ih0 _)
      | (with_reducible exact LeO.refl _)
      | (with_reducible exact LeO.none _)
      | (with_reducible refine LeO.ite ?_ ?_)
      | (with_reducible refine LeO.bind ?_ (fun _ => ?_))
      | exact ih0 _
      | exact LeO.none _
      | refine LeO.ite ?_ ?_
      | refine LeO.bind ?_ (fun _ => ?_)
def keys_After.T7 : Bool × List (List Nat × List Nat) := (true, [([], []), ([], []), ([0, 1], [0, 1]), ([], []), ([], []), ([3, 4], [3, 4]), ([5], [5]), ([6], [6]), ([7], [7]), ([2, 8], [2, 8]), ([9, 0, 1, 2, 3, 4, 5, 6, 7, 8, 9], [9]), ([10, 0, 1, 2, 3, 4, 5, 6, 7, 8, 9, 10], [])])
def keys_After.B7 : List Nat := [0, 0, 3, 0, 0, 24, 56, 120, 248, 511, 1023, 2047]
theorem keys_After.tab7 : rtab .any (opsOf Try.f13 7) = keys_After.T7 := by kernel_rfl
theorem keys_After.bits7 : waitsOk keys_After.T7.2 keys_After.B7 = true := by kernel_rfl
set_option maxHeartbeats 8000000 in
set_option maxRecDepth 100000 in
theorem keys_After.calls (k : Nat) (a0 : ByteArray) (r1 : ByteArray) (r2 : Bool) (w : World) (h : keys_After.f k a0 = some (r1, r2)) :
    Calls Try.prog 13 #[.string a0] w fun e w' => e = .returned (.tuple #[.string r1, .bool r2]) ∧ Below w.heap.size w w' := by
  have HB := Aside0.mk (Below.refl w.heap.size w)
  have H : (keys_After.l0 k a0) = some (r1, r2) := h
  clear h
  have H' := Aside0.mk H
  clear H
  go_enter Try.func13, Try.ntmps13
  go_wp2
  go_loopg [4] k (fun kq v4 w' => ∃ (x4_1 : ByteArray), v4 = .string x4_1 ∧ Aside0 (keys_After.l0 kq x4_1 = some (r1, r2)) ∧ Aside0 (kq ≤ k) ∧ Aside0 (Below w.heap.size w w'))
  case atStart => exact ⟨(a0), (by first | rfl | (simp; done) | (simp [*]; done)), H', ⟨Nat.le_refl _⟩, ⟨by repeat (first | (with_reducible first | exact HB.out | apply below_alloc | apply pw_below_drewN | apply below_drew1) | exact HB.out)⟩⟩
  case round =>
    clear H'
    try clear c1
    obtain ⟨x4_1, rfl, HA, HK1, HB⟩ := hrel
    cases gk with
    | zero => exact absurd HA.out (by simp [keys_After.l0])
    | succ k1 =>
      have H := HA.out
      clear HA
      simp only [keys_After.l0] at H
      by_cases c2 : x4_1.toList = ([] : List UInt8)
      · rw [if_pos c2] at H
        have c2b0 : (x4_1.toList == ([] : List UInt8)) = true := beq_iff_eq.mpr c2
        have c2b1 : (x4_1.toList != ([] : List UInt8)) = false := bne_eq_false_iff_eq.mpr c2
        clear c2
        simp only [Option.some.injEq, Prod.mk.injEq] at H
        obtain ⟨rfl, rfl⟩ := H
        go_wp2
        go_ret2
        exact ⟨by first | rfl | (simp [errW_none, errW_some] <;> rfl) | (simp [*, errW_none, errW_some] <;> rfl), by repeat (first | (with_reducible first | exact HB.out | apply below_alloc | apply pw_below_drewN | apply below_drew1) | exact HB.out)⟩
      · rw [if_neg c2] at H
        have c2b0 : (x4_1.toList == ([] : List UInt8)) = false := beq_eq_false_iff_ne.mpr c2
        have c2b1 : (x4_1.toList != ([] : List UInt8)) = true := bne_iff_ne.mpr c2
        obtain ⟨ji3, hji3⟩ : ∃ j_ : Int, (wrap64 ((x4_1.size : Int) - 1)) = j_ := ⟨_, rfl⟩
        replace H : (if 0 ≤ (ji3) then (if (ji3) < (x4_1.size : Int) then (if (bt x4_1 (ji3)) = 255 then (if (ji3) ≤ (x4_1.size : Int) then (keys_After.l0 k1 (x4_1.extract 0 ((ji3) : Int).toNat)) else (none)) else (if (ji3) ≤ (x4_1.size : Int) then ((some (([((bt x4_1 (ji3)) + 1) % 256] : List Int) : List Int)).bind fun y101 => (if (x4_1.extract 0 ((ji3) : Int).toNat).size + (strOfNums y101).size ≤ 9223372036854775807 then (some ((x4_1.extract 0 ((ji3) : Int).toNat) ++ (strOfNums y101), true)) else (none))) else (none))) else (none)) else (none)) = some (r1, r2) := by first | (rw [hji3] at H; exact H) | (simp only [hji3] at H ⊢; exact H)
        have hji3w : (IntKind.i64.wrap ((x4_1.size : Int) - 1)) = ji3 := (i64_w _).trans hji3
        by_cases c4 : 0 ≤ (ji3)
        · rw [if_pos c4] at H
          have c4b0 : decide (0 ≤ (ji3)) = true := decide_eq_true c4
          clear c4
          by_cases c5 : (ji3) < (x4_1.size : Int)
          · rw [if_pos c5] at H
            have c5b0 : decide ((ji3) < (x4_1.size : Int)) = true := decide_eq_true c5
            clear c5
            by_cases c7 : (bt x4_1 (ji3)) = 255
            · rw [if_pos c7] at H
              have c7b0 : ((bt x4_1 (ji3)) == 255) = true := beq_iff_eq.mpr c7
              have c7b1 : ((bt x4_1 (ji3)) != 255) = false := bne_eq_false_iff_eq.mpr c7
              clear c7
              have c8b0 := eq_true (of_decide_eq_true (by first | (with_reducible assumption) | assumption) : 0 ≤ (ji3))
              by_cases c9 : (ji3) ≤ (x4_1.size : Int)
              · rw [if_pos c9] at H
                have c9b0 := eq_true c9
                have c9b1 : decide ((ji3) ≤ (x4_1.size : Int)) = true := decide_eq_true c9
                clear c9
                have H' := Aside0.mk H
                clear H
                have p6 : 0 ≤ ((ji3) : Int) := of_decide_eq_true (by first | (with_reducible assumption) | assumption)
                have q6 : (ji3) < (x4_1.size : Int) := of_decide_eq_true (by first | (with_reducible assumption) | assumption)
                have hx6 := bt_at x4_1 (ji3)
                replace p6 := eq_true p6
                replace q6 := eq_true q6
                go_wp2
                go_roundg k1
                case measure => have := HK1.out; omega
                case rel => exact ⟨(x4_1.extract 0 ((ji3) : Int).toNat), (by first | rfl | (simp; done) | (simp only [← hji3] <;> (first | rfl | simp)) | (simp [*]; done)), H', ⟨by have := HK1.out; omega⟩, ⟨by repeat (first | (with_reducible first | exact HB.out | apply below_alloc | apply pw_below_drewN | apply below_drew1) | exact HB.out)⟩⟩
              · rw [if_neg c9] at H
                exact absurd H (by simp)
            · rw [if_neg c7] at H
              have c7b0 : ((bt x4_1 (ji3)) == 255) = false := beq_eq_false_iff_ne.mpr c7
              have c7b1 : ((bt x4_1 (ji3)) != 255) = true := bne_iff_ne.mpr c7
              have c10b0 := eq_true (of_decide_eq_true (by first | (with_reducible assumption) | assumption) : 0 ≤ (ji3))
              by_cases c11 : (ji3) ≤ (x4_1.size : Int)
              · rw [if_pos c11] at H
                have c11b0 := eq_true c11
                have c11b1 : decide ((ji3) ≤ (x4_1.size : Int)) = true := decide_eq_true c11
                clear c11
                obtain ⟨y101, hy101⟩ : ∃ y_ : List Int, y_ = (([((bt x4_1 (ji3)) + 1) % 256] : List Int)) := ⟨_, rfl⟩
                replace H : (if (x4_1.extract 0 ((ji3) : Int).toNat).size + (strOfNums y101).size ≤ 9223372036854775807 then (some ((x4_1.extract 0 ((ji3) : Int).toNat) ++ (strOfNums y101), true)) else (none)) = some (r1, r2) := by first | (rw [hy101]; with_reducible exact H) | (have H2_ := (Option.bind_some _ _).symm.trans H; rw [hy101]; with_reducible exact H2_) | (have H2_ := (Option.bind_some _ _).symm.trans H; with_reducible exact H2_) | with_reducible exact H | (rw [hy101]; exact H) | exact H
                have Ny101 := Aside0.mk hy101
                clear hy101
                by_cases c13 : (x4_1.extract 0 ((ji3) : Int).toNat).size + (strOfNums y101).size ≤ 9223372036854775807
                · rw [if_pos c13] at H
                  have c13b0 := eq_true c13
                  have c13b1 : decide ((x4_1.extract 0 ((ji3) : Int).toNat).size + (strOfNums y101).size ≤ 9223372036854775807) = true := decide_eq_true c13
                  try have c13b2 : (9223372036854775807 < (x4_1.extract 0 ((ji3) : Int).toNat).size + (strOfNums y101).size) = False := eq_false (Nat.not_lt.2 c13)
                  have c13b3 : (9223372036854775807 < ji3.toNat + (strOfNums y101).size) = False := by
                    refine eq_false (Nat.not_lt.2 ?_)
                    have hz_ : (x4_1.extract 0 ((ji3) : Int).toNat).size = ji3.toNat := by
                      rw [ByteArray.size_extract]
                      have := of_decide_eq_true c11b1
                      omega
                    rw [hz_] at c13
                    exact c13
                  simp only [Option.some.injEq, Prod.mk.injEq] at H
                  obtain ⟨rfl, rfl⟩ := H
                  have p6 : 0 ≤ ((ji3) : Int) := of_decide_eq_true (by first | (with_reducible assumption) | assumption)
                  have q6 : (ji3) < (x4_1.size : Int) := of_decide_eq_true (by first | (with_reducible assumption) | assumption)
                  have hx6 := bt_at x4_1 (ji3)
                  replace p6 := eq_true p6
                  replace q6 := eq_true q6
                  try go_wp2
                  have n0_ := Aside0.mk (below_drew1 HB.out)
                  clear HB
                  have HB := n0_
                  clear n0_
                  have p12 : 0 ≤ ((ji3) : Int) := of_decide_eq_true (by first | (with_reducible assumption) | assumption)
                  have q12 : (ji3) < (x4_1.size : Int) := of_decide_eq_true (by first | (with_reducible assumption) | assumption)
                  have hx12 := bt_at x4_1 (ji3)
                  replace p12 := eq_true p12
                  replace q12 := eq_true q12
                  refine start_ (n := 12) (S := fun w' => True) (ds := []) #[false, false, false, false, false, false, false, false, false, false, false, false] (by kernel_rfl) rfl rfl trivial (fun hHeld => ?_); refine with_tabW keys_After.tab7 keys_After.bits7 (fun HT_ HW_ => ?_)
                  generalize wr.drew = w14 at HB hHeld ⊢
                  refine pure_ (i := 0) (N := some 27) (v := ?_) (a' := ?_) #[true, false, false, false, false, false, false, false, false, false, false, false] rfl rfl (any_of HT_.out (by kernel_rfl)) (fun _ _ _ h => h) (Or.inl ⟨by rfl, ?_⟩) ?_ ?_
                  rotate_left
                  · intro w'
                    go_simp
                    with_reducible rfl
                  rotate_left
                  · simp only [Act.put, List.setIfInBounds_toArray, List.set_cons_zero, List.set_cons_succ, i64_w, i32_w]
                    rfl
                  refine pure_ (i := 1) (N := some 28) (v := ?_) (a' := ?_) #[true, true, false, false, false, false, false, false, false, false, false, false] rfl rfl (any_of HT_.out (by kernel_rfl)) (fun _ _ _ h => h) (Or.inl ⟨by rfl, ?_⟩) ?_ ?_
                  rotate_left
                  · intro w'
                    go_simp
                    with_reducible rfl
                  rotate_left
                  · simp only [Act.put, List.setIfInBounds_toArray, List.set_cons_zero, List.set_cons_succ, i64_w, i32_w]
                    rfl
                  refine pure_ (i := 2) (N := some 29) (v := ?_) (a' := ?_) #[true, true, true, false, false, false, false, false, false, false, false, false] rfl rfl (any_of HT_.out (by kernel_rfl)) (fun _ _ _ h => h) (Or.inl ⟨by rfl, ?_⟩) ?_ ?_
                  rotate_left
                  · intro w'
                    go_simp
                    with_reducible rfl
                  rotate_left
                  · simp only [Act.put, List.setIfInBounds_toArray, List.set_cons_zero, List.set_cons_succ, i64_w, i32_w]
                    rfl
                  refine pure_ (i := 3) (N := some 30) (v := ?_) (a' := ?_) #[true, true, true, true, false, false, false, false, false, false, false, false] rfl rfl (any_of HT_.out (by kernel_rfl)) (fun _ _ _ h => h) (Or.inl ⟨by rfl, ?_⟩) ?_ ?_
                  rotate_left
                  · intro w'
                    go_simp
                    with_reducible rfl
                  rotate_left
                  · simp only [Act.put, List.setIfInBounds_toArray, List.set_cons_zero, List.set_cons_succ, i64_w, i32_w]
                    rfl
                  refine pure_ (i := 4) (N := some 31) (v := ?_) (a' := ?_) #[true, true, true, true, true, false, false, false, false, false, false, false] rfl rfl (any_of HT_.out (by kernel_rfl)) (fun _ _ _ h => h) (Or.inl ⟨by rfl, ?_⟩) ?_ ?_
                  rotate_left
                  · intro w'
                    go_simp
                    with_reducible rfl
                  rotate_left
                  · simp only [Act.put, List.setIfInBounds_toArray, List.set_cons_zero, List.set_cons_succ, i64_w, i32_w]
                    rfl
                  refine take_ (i := 5) (N := some 32) (v := ?_) (a' := ?_) #[true, true, true, true, true, true, false, false, false, false, false, false] rfl rfl (take_ofW HT_.out HW_.out (by kernel_rfl)) (fun _ _ _ h => h) (Or.inl ⟨by rfl, ?_⟩) hHeld ?_ ?_
                  rotate_left
                  · intro w' _
                    go_simp
                    with_reducible rfl
                  rotate_left
                  · simp only [Act.put, List.setIfInBounds_toArray, List.set_cons_zero, List.set_cons_succ, i64_w, i32_w]
                    rfl
                  refine pure_ (i := 6) (N := some 33) (v := ?_) (a' := ?_) #[true, true, true, true, true, true, true, false, false, false, false, false] rfl rfl (any_of HT_.out (by kernel_rfl)) (fun _ _ _ h => h) (Or.inl ⟨by rfl, ?_⟩) ?_ ?_
                  rotate_left
                  · intro w'
                    go_simp
                    with_reducible rfl
                  rotate_left
                  · simp only [Act.put, List.setIfInBounds_toArray, List.set_cons_zero, List.set_cons_succ, i64_w, i32_w]
                    rfl
                  refine one_ (i := 7) (N := some 34) #[true, true, true, true, true, true, true, true, false, false, false, false] rfl rfl (one_of HT_.out (by kernel_rfl)) (by decide) (fun K hK => ?_)
                  refine Kd.R_lit_step (Kd.int .u8) _ 5 ?hg (N := 34) ?hd (xs := ([((bt x4_1 (ji3)) + 1) % 256] : List Int)) (inner := [.int .u8 (((bt x4_1 (ji3)) + 1) % 256)]) (ok := fun _ => True) (okp := fun _ => True) ?hr ?hp (fun _ hk => hk) trivial (Below.refl _ _) (Nat.le_refl _) (by simp) ?_; (case hd => rfl); (case hg => rfl); (case hr => first | (go_simp; done) | (go_simp; rfl)); (case hp => exact (Reps.one (show Kd.M (Kd.int .u8) _ _ _ (((bt x4_1 (ji3)) + 1) % 256) [.int .u8 (((bt x4_1 (ji3)) + 1) % 256)] from rfl) (Reps.none _ _)))
                  intro v102 w15 ho16 hb hg_ hnew_
                  clear hg_ hnew_
                  (first | rw [← Ny101.out] at ho16 | (simp only [Int.reduceToNat] at ho16; rw [← Ny101.out] at ho16))
                  have n0_ := Aside0.mk (Kd.R_lower ho16 (below_size (by repeat (first | (with_reducible first | exact HB.out | apply below_alloc | apply pw_below_drewN | apply below_drew1) | exact HB.out))))
                  have n1_ := Aside0.mk (below_step (by repeat (first | (with_reducible first | exact HB.out | apply below_alloc | apply pw_below_drewN | apply below_drew1) | exact HB.out)) hb)
                  clear HB
                  have HO103 := n0_
                  have HB := n1_
                  clear n0_ n1_
                  clear hb ho16
                  refine hK.out _ _ trivial (fun hHeld => ?_)
                  clear hK K
                  refine norm_ (a' := ?_) ?_ ?_
                  rotate_left
                  · show Act.put _ (some 34) _ = _
                    simp only [Act.put, List.setIfInBounds_toArray, List.set_cons_zero, List.set_cons_succ, i64_w, i32_w]
                    rfl
                  refine one_ (i := 8) (N := some 35) #[true, true, true, true, true, true, true, true, true, false, false, false] rfl rfl (one_of HT_.out (by kernel_rfl)) (by decide) (fun K hK => ?_)
                  have hcv17 := own_string (P := Try.prog) Try.underlying49 Try.underlying5 Try.underlying9 (Kd.own_of_R HO103.out)
                  refine value_ (w1 := ?_) (v := ?_) (by rfl) rfl ?_ ?_
                  rotate_left 2
                  · go_simp
                    constructor
                    · rfl
                    · rfl
                  clear hcv17
                  refine hK.out _ _ trivial (fun hHeld => ?_)
                  clear hK K
                  refine norm_ (a' := ?_) ?_ ?_
                  rotate_left
                  · show Act.put _ (some 35) _ = _
                    simp only [Act.put, List.setIfInBounds_toArray, List.set_cons_zero, List.set_cons_succ, i64_w, i32_w]
                    rfl
                  refine pure_ (i := 9) (N := some 36) (v := ?_) (a' := ?_) #[true, true, true, true, true, true, true, true, true, true, false, false] rfl rfl (any_of HT_.out (by kernel_rfl)) (fun _ _ _ h => h) (Or.inl ⟨by rfl, ?_⟩) ?_ ?_
                  rotate_left
                  · intro w'
                    go_simp
                    with_reducible rfl
                  rotate_left
                  · simp only [Act.put, List.setIfInBounds_toArray, List.set_cons_zero, List.set_cons_succ, i64_w, i32_w]
                    rfl
                  refine pure_ (i := 10) (N := some 2) (v := ?_) (a' := ?_) #[true, true, true, true, true, true, true, true, true, true, true, false] rfl rfl (any_of HT_.out (by kernel_rfl)) (fun _ _ _ h => h) (Or.inl ⟨by rfl, ?_⟩) ?_ ?_
                  rotate_left
                  · intro w'
                    go_simp
                    with_reducible rfl
                  rotate_left
                  · simp only [Act.put, List.setIfInBounds_toArray, List.set_cons_zero, List.set_cons_succ, i64_w, i32_w]
                    rfl
                  refine pure_ (i := 11) (N := some 3) (v := ?_) (a' := ?_) #[true, true, true, true, true, true, true, true, true, true, true, true] rfl rfl (any_of HT_.out (by kernel_rfl)) (fun _ _ _ h => h) (Or.inl ⟨by rfl, ?_⟩) ?_ ?_
                  rotate_left
                  · intro w'
                    go_simp
                    with_reducible rfl
                  rotate_left
                  · simp only [Act.put, List.setIfInBounds_toArray, List.set_cons_zero, List.set_cons_succ, i64_w, i32_w]
                    rfl
                  refine done_ (done_of HT_.out (by kernel_rfl)) ?_
                  try go_wp2
                  go_ret2
                  exact ⟨by first | rfl | (simp [errW_none, errW_some] <;> rfl) | (simp only [← hji3]; first | rfl | (simp [errW_none, errW_some] <;> rfl)) | (simp [*, errW_none, errW_some] <;> rfl), by repeat (first | (with_reducible first | exact HB.out | apply below_alloc | apply pw_below_drewN | apply below_drew1) | exact HB.out)⟩
                · rw [if_neg c13] at H
                  exact absurd H (by simp)
              · rw [if_neg c11] at H
                exact absurd H (by simp)
          · rw [if_neg c5] at H
            exact absurd H (by simp)
        · rw [if_neg c4] at H
          exact absurd H (by simp)



end Go.Proofs.Ytjkljhcfbgcgoaa.K
end
section
namespace Go.Proofs.Ytjkljhcfbgcgoaa.K
open Go.RowKit Go.Proofs.YtjkljhcfbgcgoaaW.PrintWords Go.Proofs.YtjkljhcfbgcgoaaW.PrintLast Go.Proofs.YtjkljhcfbgcgoaaW.PrintMore
attribute [local go_sem] max2_int min2_int max_two min_two max_three min_three max_four min_four   -- for this text's walks alone
set_option linter.unusedVariables false
set_option linter.unusedSimpArgs false

/-! ### musterref01_After: function 14 -/
-- HAND
def refAfter (s : ByteArray) : Nat → ByteArray × Bool
  | 0 => (⟨#[]⟩, false)
  | n + 1 => if bt s n = 255 then refAfter s n else (strOfNums ((bytesOf s).take n ++ [bt s n + 1]), true)
theorem block_set (w : World) (b : Nat) (cs : Array Value) (T : TypeId) (f : Nat × Nat) (j : Nat) (v : Value) (h : w.heap[b]? = some (.cells cs T f)) : (w.setCell ⟨b, j, none⟩ v).heap[b]? = some (.cells (cs.setIfInBounds j v) T f) := by
  simp [World.setCell, Array.getElem?_modify, h]
theorem conv_new (w : World) (s : ByteArray) : ∃ (cap : Nat) (W1 : World) (C : Array Value), (convert 9 49 (.string s)).run Try.prog w = .ok (.slice (some ⟨w.heap.size, 0, none⟩) s.size cap) W1 ∧
    W1.heap[w.heap.size]? = some (.cells C 5 (C.size, C.size + 1)) ∧ s.size ≤ C.size ∧ (∀ j, j < s.size → C[j]? = some (.int .u8 (bt s j))) ∧ Below w.heap.size w W1 := by
  refine ⟨_, _, _, Lib.run_convert_string_bytes (P := Try.prog) w 9 49 5 s Try.underlying9 Try.underlying49 Try.underlying5, Lib.bytesWorld_at_new w 5 s, by unfold Lib.bytesCells; rw [Array.size_append, Array.size_map]; exact Nat.le_add_right _ _, ?_, ?_⟩
  · intro j hj
    have hj' : j < s.data.size := hj
    rw [Lib.bytesCells, Array.getElem?_append_left (by simpa using hj')]
    simp [hj', bt, hj]
    rfl
  · exact ⟨rfl, rfl, rfl, by rw [Lib.bytesWorld_size]; omega, fun k hk => Lib.bytesWorld_at_old w 5 s k hk⟩
theorem bt_extract (s : ByteArray) (n j : Nat) (hn : n ≤ s.size) (hj : j < n) : bt (s.extract 0 n) j = bt s j := by
  have h1 : j < (s.extract 0 n).size := by rw [ByteArray.size_extract]; omega
  have h2 : j < s.size := by omega
  have h3 : j < min n s.size := by omega
  simp [bt, h2, h3, ByteArray.getElem_extract]
theorem bytesOf_get (s : ByteArray) (j : Nat) (hj : j < s.size) : (bytesOf s)[j]? = some (bt s j) := by
  have hj' : j < s.data.size := hj
  simp [bytesOf, bt, hj, hj']
  rfl
def musterref01_After.f (a0 : ByteArray) : Option (ByteArray × Bool) := if a0.size ≤ 140737488351232 then some (refAfter a0 a0.size) else none
set_option maxHeartbeats 2000000 in
set_option maxRecDepth 100000 in
theorem musterref01_After.calls (a0 : ByteArray) (r1 : ByteArray) (r2 : Bool) (w : World) (h : musterref01_After.f a0 = some (r1, r2)) :
    Calls Try.prog 14 #[.string a0] w fun e w' => e = .returned (.tuple #[.string r1, .bool r2]) ∧ Below w.heap.size w w' := by
  unfold musterref01_After.f at h
  split at h
  case isFalse => simp at h
  rename_i hz
  have HF := Aside0.mk (Option.some.inj h)
  clear h
  have HB := Aside0.mk (Below.refl w.heap.size w)
  go_enter Try.func14, Try.ntmps14
  go_wp2_with fail
  go_loopg [4] a0.size (fun kq v4 w' => v4 = .int .i64 ((kq : Int) - 1) ∧ Aside0 (kq ≤ a0.size) ∧ Aside0 (refAfter a0 kq = (r1, r2)) ∧ Aside0 (Below w.heap.size w w'))
  case atStart => exact ⟨by simp, ⟨Nat.le_refl _⟩, HF, HB⟩
  case round =>
    obtain ⟨rfl, HJ, HR, HB⟩ := hrel
    cases gk with
    | zero =>
      have := HR.out
      simp only [refAfter, Prod.mk.injEq] at this
      obtain ⟨rfl, rfl⟩ := this
      go_wp2_with fail
      go_ret2
      exact ⟨rfl, HB.out⟩
    | succ n =>
      have hn : (n : Int) < (a0.size : Int) := by have := HJ.out; omega
      have hx6 : ∀ h : n < a0.size, ((a0[n]'h).toNat : Int) = bt a0 n := fun h => by simp [bt, h]
      have hbr := Aside0.mk (bt_range a0 n)
      have HR' := HR.out
      simp only [refAfter] at HR'
      by_cases hb : bt a0 n = 255
      · rw [if_pos hb] at HR'
        have HR2 := Aside0.mk HR'
        have hb0 : (bt a0 n != 255) = false := by simp [hb]
        clear hb HR' HR
        go_wp2_with fail
        go_roundg n
        case measure => omega
        case rel => exact ⟨rfl, ⟨by have := HJ.out; omega⟩, HR2, HB⟩
      · rw [if_neg hb] at HR'
        have HR2 := Aside0.mk HR'
        have hb0 : (bt a0 n != 255) = true := by simpa using hb
        have hb1 : bt a0 n ≤ 254 := by have := hbr.out; omega
        have hb2 : 0 ≤ bt a0 n := hbr.out.1
        clear hb HR' HR
        have hsz : (a0.extract 0 (n + 1)).size = n + 1 := by rw [ByteArray.size_extract]; have := HJ.out; omega
        obtain ⟨cap, W1, C, hcv, hblk, hC, hcs, hbel⟩ := conv_new wr (a0.extract 0 (n + 1))
        rw [hsz] at hcv hC hcs
        have HBLK := Aside0.mk hblk
        have HCS := Aside0.mk hcs
        have HB1 := Aside0.mk (below_step HB.out hbel)
        have HGE := Aside0.mk HB.out.size
        have c1 : W1.cell? ⟨wr.heap.size, n, none⟩ = some (.int .u8 (bt a0 n)) := by
          rw [Lib.cell_of_heap hblk, hcs n (by omega), bt_extract _ _ _ HJ.out (by omega)]
        have f1 : W1.frozen? ⟨wr.heap.size, n, none⟩ = false := by
          simp [World.frozen?, hblk]; omega
        have hcb := run_convert_bytes_arg (P := Try.prog) (W1.setCell ⟨wr.heap.size, n, none⟩ (.int .u8 (bt a0 n + 1))) 49 5 Try.underlying49 Try.underlying5 wr.heap.size 0 (n + 1) cap ((bytesOf a0).take n ++ [bt a0 n + 1]) (by simp [bytesOf]; have := HJ.out; omega) (by
          intro i hi
          rw [Nat.zero_add, Lib.cell_of_heap (block_set _ _ _ _ _ n _ hblk)]
          by_cases hin : i = n
          · subst hin
            have e : ((bytesOf a0).take i).length = i := by simp [bytesOf]; have := HJ.out; omega
            rw [Array.getElem?_setIfInBounds_self_of_lt (by omega), List.getD_eq_getElem?_getD, List.getElem?_append_right (by omega), e]
            simp
          · have hin2 : i < n := by omega
            have e : ((bytesOf a0).take n).length = n := by simp [bytesOf]; have := HJ.out; omega
            rw [Array.getElem?_setIfInBounds_ne (by omega), hcs i (by omega), bt_extract _ _ _ HJ.out (by omega), List.getD_eq_getElem?_getD, List.getElem?_append_left (by omega), List.getElem?_take_of_lt hin2, bytesOf_get _ _ (by have := HJ.out; omega)]
            rfl) 9 Try.underlying9
        clear hsz hblk hC hcs hbel
        generalize wr.heap.size = b at *
        go_wp2_with fail
        go_ret2
        exact ⟨by have := HR2.out; simp only [Prod.mk.injEq] at this; obtain ⟨rfl, rfl⟩ := this; rfl, below_set HB1.out HGE.out⟩


end Go.Proofs.Ytjkljhcfbgcgoaa.K
end
section
namespace Go.Proofs.Ytjkljhcfbgcgoaa.K
open Go.RowKit Go.Proofs.YtjkljhcfbgcgoaaW.PrintWords Go.Proofs.YtjkljhcfbgcgoaaW.PrintLast Go.Proofs.YtjkljhcfbgcgoaaW.PrintMore
attribute [local go_sem] max2_int min2_int max_two min_two max_three min_three max_four min_four   -- for this text's walks alone
set_option linter.unusedVariables false
set_option linter.unusedSimpArgs false

/-! ### musterref01_Starts: function 15 -/
def musterref01_Starts.f (a0 : ByteArray) (a1 : ByteArray) : Option (Bool) := if (a0.size : Int) ≥ (a1.size : Int) then (if 0 ≤ (a1.size : Int) then (if (a1.size : Int) ≤ (a0.size : Int) then (some ((a0.extract 0 ((a1.size : Int) : Int).toNat).toList == a1.toList)) else (none)) else (none)) else (some false)
set_option maxHeartbeats 8000000 in
set_option maxRecDepth 100000 in
theorem musterref01_Starts.calls (a0 : ByteArray) (a1 : ByteArray) (r : Bool) (w : World) (h : musterref01_Starts.f a0 a1 = some r) :
    Calls Try.prog 15 #[.string a0, .string a1] w fun e w' => e = .returned (.bool r) ∧ Drawn0 w w' := by
  have H : (if (a0.size : Int) ≥ (a1.size : Int) then (if 0 ≤ (a1.size : Int) then (if (a1.size : Int) ≤ (a0.size : Int) then (some ((a0.extract 0 ((a1.size : Int) : Int).toNat).toList == a1.toList)) else (none)) else (none)) else (some false)) = some r := h
  clear h
  by_cases c3 : (a0.size : Int) ≥ (a1.size : Int)
  · rw [if_pos c3] at H
    have c3b0 : decide ((a1.size : Int) ≤ (a0.size : Int)) = true := decide_eq_true c3
    have c3b1 : decide (a1.size ≤ a0.size) = true := decide_eq_true (Int.ofNat_le.mp c3)
    clear c3
    by_cases c4 : 0 ≤ (a1.size : Int)
    · rw [if_pos c4] at H
      have c4b0 := eq_true c4
      have c4b1 : decide (0 ≤ (a1.size : Int)) = true := decide_eq_true c4
      clear c4
      by_cases c5 : (a1.size : Int) ≤ (a0.size : Int)
      · rw [if_pos c5] at H
        have c5b0 := eq_true c5
        have c5b1 : decide ((a1.size : Int) ≤ (a0.size : Int)) = true := decide_eq_true c5
        clear c5
        obtain rfl := Option.some.inj H
        go_enter Try.func15, Try.ntmps15
        go_wp2
        go_ret
        exact ⟨by first | rfl | (simp; done) | (simp [*]; done), by repeat (first | exact Drawn0.refl _ | apply Drawn0.step)⟩
      · rw [if_neg c5] at H
        exact absurd H (by simp)
    · rw [if_neg c4] at H
      exact absurd H (by simp)
  · rw [if_neg c3] at H
    have c3b0 : decide ((a1.size : Int) ≤ (a0.size : Int)) = false := decide_eq_false c3
    have c3b1 : decide (a1.size ≤ a0.size) = false := decide_eq_false (fun h => c3 (Int.ofNat_le.mpr h))
    clear c3
    obtain rfl := Option.some.inj H
    go_enter Try.func15, Try.ntmps15
    go_wp2
    go_ret
    exact ⟨by first | rfl | (simp; done) | (simp [*]; done), by repeat (first | exact Drawn0.refl _ | apply Drawn0.step)⟩

end Go.Proofs.Ytjkljhcfbgcgoaa.K
end
section
namespace Go.Proofs.Ytjkljhcfbgcgoaa.K
open Go.RowKit Go.Proofs.YtjkljhcfbgcgoaaW.PrintWords Go.Proofs.YtjkljhcfbgcgoaaW.PrintLast Go.Proofs.YtjkljhcfbgcgoaaW.PrintMore
attribute [local go_sem] max2_int min2_int max_two min_two max_three min_three max_four min_four   -- for this text's walks alone
set_option linter.unusedVariables false
set_option linter.unusedSimpArgs false

/-! ### musterlaw01_KeysAfter: function 3 -/
mutual
def musterlaw01_KeysAfter.j0 : Nat → ByteArray → ByteArray → Bool → Option (Bool)
  | 0, _, _, _ => none
  | k + 1, x0, x1, x20 => if x20 = true then (some false) else ((musterref01_After.f x0).bind fun bt103 => ((keys_After.f k x0).bind fun bt105 => (if bt105.1.toList = bt103.1.toList then (musterlaw01_KeysAfter.j1 k x0 x1 bt105.1 bt105.2 (bt105.2 != bt103.2)) else (musterlaw01_KeysAfter.j1 k x0 x1 bt105.1 bt105.2 true))))
def musterlaw01_KeysAfter.j1 : Nat → ByteArray → ByteArray → ByteArray → Bool → Bool → Option (Bool)
  | 0, _, _, _, _, _ => none
  | k + 1, x0, x1, x9, x10, x38 => if x38 = true then (some false) else ((musterref01_Starts.f x1 x0).bind fun t107 => (if t107 = true then (if x10 = true then (some (Op.bytesLess x1.toList x9.toList)) else (some true)) else (if (Op.bytesLess x1.toList x0.toList) = true then (some true) else (if x10 = true then (some (!(Op.bytesLess x1.toList x9.toList))) else (some false)))))
end
def musterlaw01_KeysAfter.f (k : Nat) (a0 : ByteArray) (a1 : ByteArray) : Option (Bool) := (keys_After.f k (⟨#[97, 98, 255]⟩ : ByteArray)).bind fun bt101 => (if bt101.1.toList = ([97, 99] : List UInt8) then (musterlaw01_KeysAfter.j0 k a0 a1 (!bt101.2)) else (musterlaw01_KeysAfter.j0 k a0 a1 true))
theorem musterlaw01_KeysAfter.mono_l : ∀ k, (∀ y0 y1 y2, LeO (musterlaw01_KeysAfter.j0 k y0 y1 y2) (musterlaw01_KeysAfter.j0 (k + 1) y0 y1 y2)) ∧ (∀ y0 y1 y2 y3 y4, LeO (musterlaw01_KeysAfter.j1 k y0 y1 y2 y3 y4) (musterlaw01_KeysAfter.j1 (k + 1) y0 y1 y2 y3 y4))
  | 0 => ⟨fun _ _ _ r h => by simp [musterlaw01_KeysAfter.j0] at h, fun _ _ _ _ _ r h => by simp [musterlaw01_KeysAfter.j1] at h⟩
  | k + 1 => by
    obtain ⟨ih0, ih1⟩ := musterlaw01_KeysAfter.mono_l k
    refine ⟨?_, ?_⟩
    · intro y0 y1 y2
      unfold musterlaw01_KeysAfter.j0
      repeat' first
      | (with_reducible exact ih0 _ _ _)
      | (with_reducible exact ih1 _ _ _ _ _)
      | (with_reducible exact keys_After.mono _ _)
      | (with_reducible exact LeO.refl _)
      | (with_reducible exact LeO.none _)
      | (with_reducible refine LeO.ite ?_ ?_)
      | (with_reducible refine LeO.bind ?_ (fun _ => ?_))
      | exact ih0 _ _ _
      | exact ih1 _ _ _ _ _
      | exact keys_After.mono _ _
      | exact LeO.none _
      | refine LeO.ite ?_ ?_
      | refine LeO.bind ?_ (fun _ => ?_)
    · intro y0 y1 y2 y3 y4
      unfold musterlaw01_KeysAfter.j1
      repeat' first
      | (with_reducible exact ih0 _ _ _)
      | (with_reducible exact ih1 _ _ _ _ _)
      | (with_reducible exact keys_After.mono _ _)
      | (with_reducible exact LeO.refl _)
      | (with_reducible exact LeO.none _)
      | (with_reducible refine LeO.ite ?_ ?_)
      | (with_reducible refine LeO.bind ?_ (fun _ => ?_))
      | exact ih0 _ _ _
      | exact ih1 _ _ _ _ _
      | exact keys_After.mono _ _
      | exact LeO.none _
      | refine LeO.ite ?_ ?_
      | refine LeO.bind ?_ (fun _ => ?_)
theorem musterlaw01_KeysAfter.mono : ∀ a0 a1 k, LeO (musterlaw01_KeysAfter.f k a0 a1) (musterlaw01_KeysAfter.f (k + 1) a0 a1) := by
  intro a0 a1 k
  obtain ⟨ih0, ih1⟩ := musterlaw01_KeysAfter.mono_l k
  unfold musterlaw01_KeysAfter.f
  repeat' first
      | (with_reducible exact ih0 _ _ _)
      | (with_reducible exact ih1 _ _ _ _ _)
      | (with_reducible exact keys_After.mono _ _)
      | (with_reducible exact LeO.refl _)
      | (with_reducible exact LeO.none _)
      | (with_reducible refine LeO.ite ?_ ?_)
      | (with_reducible refine LeO.bind ?_ (fun _ => ?_))
      | exact ih0 _ _ _
      | exact ih1 _ _ _ _ _
      | exact keys_After.mono _ _
      | exact LeO.none _
      | refine LeO.ite ?_ ?_
      | refine LeO.bind ?_ (fun _ => ?_)
set_option maxHeartbeats 8000000 in
set_option maxRecDepth 100000 in
theorem musterlaw01_KeysAfter.calls (k : Nat) (a0 : ByteArray) (a1 : ByteArray) (r : Bool) (w : World) (h : musterlaw01_KeysAfter.f k a0 a1 = some r) :
    Calls Try.prog 3 #[.string a0, .string a1] w fun e w' => e = .returned (.bool r) ∧ Below w.heap.size w w' := by
  have HB := Aside0.mk (Below.refl w.heap.size w)
  have H : ((keys_After.f k (⟨#[97, 98, 255]⟩ : ByteArray)).bind fun bt101 => (if bt101.1.toList = ([97, 99] : List UInt8) then (musterlaw01_KeysAfter.j0 k a0 a1 (!bt101.2)) else (musterlaw01_KeysAfter.j0 k a0 a1 true))) = some r := h
  clear h
  replace H := Option.bind_eq_some_iff.mp H
  obtain ⟨⟨t101, t102⟩, A30, H⟩ := H
  replace H : (if t101.toList = ([97, 99] : List UInt8) then (musterlaw01_KeysAfter.j0 k a0 a1 (!t102)) else (musterlaw01_KeysAfter.j0 k a0 a1 true)) = some r := H
  have A3 := Aside0.mk A30
  clear A30
  have HC4 := Aside0.mk H
  clear H
  go_enter Try.func3, Try.ntmps3
  go_upto_region 2 with (first | ((with_reducible refine gate_callee (f := 13) rfl ?_); refine goesL_ (some 12) rfl rfl Try.func13 (by kernel_rfl) rfl #[.string (⟨#[97, 98, 255]⟩ : ByteArray)] rfl (by (try simp only [List.map_toArray, List.map_cons, List.map_nil]); first | done | rfl | (simp only [List.length_drop, List.length_take]; rfl)) ?_; (with_reducible refine (keys_After.calls k (⟨#[97, 98, 255]⟩ : ByteArray) t101 t102 _ A3.out).mono ?_); rintro e w5 ⟨rfl, hb⟩; refine ⟨_, rfl, ?_⟩; have n0_ := Aside0.mk (below_step (by repeat (first | (with_reducible first | exact HB.out | apply below_alloc | apply pw_below_drewN | apply below_drew1) | exact HB.out)) hb); clear HB; have HB := n0_; clear n0_; (try clear hb); (try clear hb2); (try clear hk); (try clear hi)))
  (try simp only [Act.put, List.setIfInBounds_toArray, List.set_cons_zero, List.set_cons_succ])
  go_cut [20] (fun v20 wc => ∃ (kq : Nat) (x20_3 : Bool), v20 = .bool x20_3 ∧ Aside0 (musterlaw01_KeysAfter.j0 kq a0 a1 x20_3 = some r) ∧ Aside0 (kq ≤ k) ∧ Aside0 (Below w.heap.size w wc))
  case first =>
    have H := HC4.out
    clear HC4
    by_cases c6 : t101.toList = ([97, 99] : List UInt8)
    · rw [if_pos c6] at H
      have c6b0 : (t101.toList == ([97, 99] : List UInt8)) = true := beq_iff_eq.mpr c6
      have c6b1 : (t101.toList != ([97, 99] : List UInt8)) = false := bne_eq_false_iff_eq.mpr c6
      clear c6
      (first | rw [c6b0] | (simp only [i64_w, i32_w]; rw [c6b0]) | skip)
      have H' := Aside0.mk H
      clear H
      go_wp2
      go_meet
      case rel => exact ⟨_, (!t102), (by first | rfl | (simp; done) | (simp [*]; done)), H', ⟨by first | omega | exact Nat.le_refl _⟩, ⟨by repeat (first | (with_reducible first | exact HB.out | apply below_alloc | apply pw_below_drewN | apply below_drew1) | exact HB.out)⟩⟩
    · rw [if_neg c6] at H
      have c6b0 : (t101.toList == ([97, 99] : List UInt8)) = false := beq_eq_false_iff_ne.mpr c6
      have c6b1 : (t101.toList != ([97, 99] : List UInt8)) = true := bne_iff_ne.mpr c6
      (first | rw [c6b0] | (simp only [i64_w, i32_w]; rw [c6b0]) | skip)
      have H' := Aside0.mk H
      clear H
      go_wp2
      go_meet
      case rel => exact ⟨_, (true), (by first | rfl | (simp; done) | (simp [*]; done)), H', ⟨by first | omega | exact Nat.le_refl _⟩, ⟨by repeat (first | (with_reducible first | exact HB.out | apply below_alloc | apply pw_below_drewN | apply below_drew1) | exact HB.out)⟩⟩
  case rest =>
    clear HC4
    try clear c1
    try clear p2
    try clear c3
    try clear c6
    try clear c6b0
    try clear c6b1
    obtain ⟨kq, x20_3, rfl, HA, HJ3, HB⟩ := hcut
    cases kq with
    | zero => exact absurd HA.out (by simp [musterlaw01_KeysAfter.j0])
    | succ kj3 =>
      have H := HA.out
      clear HA
      simp only [musterlaw01_KeysAfter.j0] at H
      by_cases c7 : x20_3 = true
      · subst c7
        have H1 : (some false) = some r := by rw [if_pos rfl] at H; exact H
        clear H
        have H := H1
        clear H1
        obtain rfl := Option.some.inj H
        go_wp2
        go_ret
        exact ⟨by first | rfl | (simp [errW_none, errW_some] <;> rfl) | (simp [*, errW_none, errW_some] <;> rfl), by repeat (first | (with_reducible first | exact HB.out | apply below_alloc | apply pw_below_drewN | apply below_drew1) | exact HB.out)⟩
      · replace c7 := Bool.eq_false_iff.mpr c7
        subst c7
        have H1 : ((musterref01_After.f a0).bind fun bt103 => ((keys_After.f kj3 a0).bind fun bt105 => (if bt105.1.toList = bt103.1.toList then (musterlaw01_KeysAfter.j1 kj3 a0 a1 bt105.1 bt105.2 (bt105.2 != bt103.2)) else (musterlaw01_KeysAfter.j1 kj3 a0 a1 bt105.1 bt105.2 true)))) = some r := by rw [if_neg (show ¬ (false = true) by decide)] at H; exact H
        clear H
        have H := H1
        clear H1
        replace H := Option.bind_eq_some_iff.mp H
        obtain ⟨⟨t103, t104⟩, A80, H⟩ := H
        replace H : ((keys_After.f kj3 a0).bind fun bt105 => (if bt105.1.toList = t103.toList then (musterlaw01_KeysAfter.j1 kj3 a0 a1 bt105.1 bt105.2 (bt105.2 != t104)) else (musterlaw01_KeysAfter.j1 kj3 a0 a1 bt105.1 bt105.2 true))) = some r := H
        have A8 := Aside0.mk A80
        clear A80
        replace H := Option.bind_eq_some_iff.mp H
        obtain ⟨⟨t105, t106⟩, A90, H⟩ := H
        replace H : (if t105.toList = t103.toList then (musterlaw01_KeysAfter.j1 kj3 a0 a1 t105 t106 (t106 != t104)) else (musterlaw01_KeysAfter.j1 kj3 a0 a1 t105 t106 true)) = some r := H
        have A9 := Aside0.mk A90
        clear A90
        have HC10 := Aside0.mk H
        clear H
        go_upto_region 6 with (first | ((with_reducible refine gate_callee (f := 14) rfl ?_); refine goesL_ (some 23) rfl rfl Try.func14 (by kernel_rfl) rfl #[.string a0] rfl (by (try simp only [List.map_toArray, List.map_cons, List.map_nil]); first | done | rfl | (simp only [List.length_drop, List.length_take]; rfl)) ?_; (with_reducible refine (musterref01_After.calls a0 t103 t104 _ A8.out).mono ?_); rintro e w11 ⟨rfl, hb⟩; refine ⟨_, rfl, ?_⟩; have n0_ := Aside0.mk (below_step (by repeat (first | (with_reducible first | exact HB.out | apply below_alloc | apply pw_below_drewN | apply below_drew1) | exact HB.out)) hb); clear HB; have HB := n0_; clear n0_; (try clear hb); (try clear hb2); (try clear hk); (try clear hi)) | ((with_reducible refine gate_callee (f := 13) rfl ?_); refine goesL_ (some 28) rfl rfl Try.func13 (by kernel_rfl) rfl #[.string a0] rfl (by (try simp only [List.map_toArray, List.map_cons, List.map_nil]); first | done | rfl | (simp only [List.length_drop, List.length_take]; rfl)) ?_; (with_reducible refine (keys_After.calls kj3 a0 t105 t106 _ A9.out).mono ?_); rintro e w12 ⟨rfl, hb⟩; refine ⟨_, rfl, ?_⟩; have n0_ := Aside0.mk (below_step (by repeat (first | (with_reducible first | exact HB.out | apply below_alloc | apply pw_below_drewN | apply below_drew1) | exact HB.out)) hb); clear HB; have HB := n0_; clear n0_; (try clear hb); (try clear hb2); (try clear hk); (try clear hi)))
        (try simp only [Act.put, List.setIfInBounds_toArray, List.set_cons_zero, List.set_cons_succ])
        go_cut [38] (fun v38 wc => ∃ (kq : Nat) (x38_9 : Bool), v38 = .bool x38_9 ∧ Aside0 (musterlaw01_KeysAfter.j1 kq a0 a1 t105 t106 x38_9 = some r) ∧ Aside0 (kq ≤ kj3) ∧ Aside0 (Below w.heap.size w wc))
        case first =>
          have H := HC10.out
          clear HC10
          by_cases c13 : t105.toList = t103.toList
          · rw [if_pos c13] at H
            have c13b0 : (t105.toList == t103.toList) = true := beq_iff_eq.mpr c13
            have c13b1 : (t105.toList != t103.toList) = false := bne_eq_false_iff_eq.mpr c13
            clear c13
            (first | rw [c13b0] | (simp only [i64_w, i32_w]; rw [c13b0]) | skip)
            have H' := Aside0.mk H
            clear H
            go_wp2
            go_meet
            case rel => exact ⟨_, ((t106 != t104)), (by first | rfl | (simp; done) | (simp [*]; done)), H', ⟨by have := HJ3.out; first | omega | exact Nat.le_refl _⟩, ⟨by repeat (first | (with_reducible first | exact HB.out | apply below_alloc | apply pw_below_drewN | apply below_drew1) | exact HB.out)⟩⟩
          · rw [if_neg c13] at H
            have c13b0 : (t105.toList == t103.toList) = false := beq_eq_false_iff_ne.mpr c13
            have c13b1 : (t105.toList != t103.toList) = true := bne_iff_ne.mpr c13
            (first | rw [c13b0] | (simp only [i64_w, i32_w]; rw [c13b0]) | skip)
            have H' := Aside0.mk H
            clear H
            go_wp2
            go_meet
            case rel => exact ⟨_, (true), (by first | rfl | (simp; done) | (simp [*]; done)), H', ⟨by have := HJ3.out; first | omega | exact Nat.le_refl _⟩, ⟨by repeat (first | (with_reducible first | exact HB.out | apply below_alloc | apply pw_below_drewN | apply below_drew1) | exact HB.out)⟩⟩
        case rest =>
          clear HC10
          try clear c1
          try clear p2
          try clear c3
          try clear c6
          try clear c6b0
          try clear c6b1
          try clear c7
          try clear c13
          try clear c13b0
          try clear c13b1
          try clear p2
          obtain ⟨kq, x38_9, rfl, HA, HJ9, HB⟩ := hcut
          cases kq with
          | zero => exact absurd HA.out (by simp [musterlaw01_KeysAfter.j1])
          | succ kj9 =>
            have H := HA.out
            clear HA
            simp only [musterlaw01_KeysAfter.j1] at H
            by_cases c14 : x38_9 = true
            · subst c14
              have H1 : (some false) = some r := by rw [if_pos rfl] at H; exact H
              clear H
              have H := H1
              clear H1
              obtain rfl := Option.some.inj H
              go_wp2
              go_ret
              exact ⟨by first | rfl | (simp [errW_none, errW_some] <;> rfl) | (simp [*, errW_none, errW_some] <;> rfl), by repeat (first | (with_reducible first | exact HB.out | apply below_alloc | apply pw_below_drewN | apply below_drew1) | exact HB.out)⟩
            · replace c14 := Bool.eq_false_iff.mpr c14
              subst c14
              have H1 : ((musterref01_Starts.f a1 a0).bind fun t107 => (if t107 = true then (if t106 = true then (some (Op.bytesLess a1.toList t105.toList)) else (some true)) else (if (Op.bytesLess a1.toList a0.toList) = true then (some true) else (if t106 = true then (some (!(Op.bytesLess a1.toList t105.toList))) else (some false))))) = some r := by rw [if_neg (show ¬ (false = true) by decide)] at H; exact H
              clear H
              have H := H1
              clear H1
              replace H := Option.bind_eq_some_iff.mp H
              obtain ⟨t107, A150, H⟩ := H
              replace H : (if t107 = true then (if t106 = true then (some (Op.bytesLess a1.toList t105.toList)) else (some true)) else (if (Op.bytesLess a1.toList a0.toList) = true then (some true) else (if t106 = true then (some (!(Op.bytesLess a1.toList t105.toList))) else (some false)))) = some r := H
              have A15 := Aside0.mk A150
              clear A150
              by_cases c16 : t107 = true
              · subst c16
                have H1 : (if t106 = true then (some (Op.bytesLess a1.toList t105.toList)) else (some true)) = some r := by rw [if_pos rfl] at H; exact H
                clear H
                have H := H1
                clear H1
                by_cases c17 : t106 = true
                · subst c17
                  have H1 : (some (Op.bytesLess a1.toList t105.toList)) = some r := by rw [if_pos rfl] at H; exact H
                  clear H
                  have H := H1
                  clear H1
                  obtain rfl := Option.some.inj H
                  go_wp2_with (first | ((with_reducible refine gate_callee (f := 15) rfl ?_); refine goesL_ (some 41) rfl rfl Try.func15 (by kernel_rfl) rfl #[.string a1, .string a0] rfl (by (try simp only [List.map_toArray, List.map_cons, List.map_nil]); first | done | rfl | (simp only [List.length_drop, List.length_take]; rfl)) ?_; (with_reducible refine (musterref01_Starts.calls a1 a0 true _ A15.out).mono ?_); rintro e w' ⟨rfl, ⟨nd, rfl⟩⟩; refine ⟨_, rfl, ?_⟩))
                  go_ret
                  exact ⟨by first | rfl | (simp [errW_none, errW_some] <;> rfl) | (simp [*, errW_none, errW_some] <;> rfl), by repeat (first | (with_reducible first | exact HB.out | apply below_alloc | apply pw_below_drewN | apply below_drew1) | exact HB.out)⟩
                · replace c17 := Bool.eq_false_iff.mpr c17
                  subst c17
                  have H1 : (some true) = some r := by rw [if_neg (show ¬ (false = true) by decide)] at H; exact H
                  clear H
                  have H := H1
                  clear H1
                  obtain rfl := Option.some.inj H
                  go_wp2_with (first | ((with_reducible refine gate_callee (f := 15) rfl ?_); refine goesL_ (some 41) rfl rfl Try.func15 (by kernel_rfl) rfl #[.string a1, .string a0] rfl (by (try simp only [List.map_toArray, List.map_cons, List.map_nil]); first | done | rfl | (simp only [List.length_drop, List.length_take]; rfl)) ?_; (with_reducible refine (musterref01_Starts.calls a1 a0 true _ A15.out).mono ?_); rintro e w' ⟨rfl, ⟨nd, rfl⟩⟩; refine ⟨_, rfl, ?_⟩))
                  go_ret
                  exact ⟨by first | rfl | (simp [errW_none, errW_some] <;> rfl) | (simp [*, errW_none, errW_some] <;> rfl), by repeat (first | (with_reducible first | exact HB.out | apply below_alloc | apply pw_below_drewN | apply below_drew1) | exact HB.out)⟩
              · replace c16 := Bool.eq_false_iff.mpr c16
                subst c16
                have H1 : (if (Op.bytesLess a1.toList a0.toList) = true then (some true) else (if t106 = true then (some (!(Op.bytesLess a1.toList t105.toList))) else (some false))) = some r := by rw [if_neg (show ¬ (false = true) by decide)] at H; exact H
                clear H
                have H := H1
                clear H1
                by_cases c18 : (Op.bytesLess a1.toList a0.toList) = true
                · rw [if_pos c18] at H
                  have c18b0 : (Op.bytesLess a1.toList a0.toList) = true := c18
                  clear c18
                  obtain rfl := Option.some.inj H
                  go_wp2_with (first | ((with_reducible refine gate_callee (f := 15) rfl ?_); refine goesL_ (some 41) rfl rfl Try.func15 (by kernel_rfl) rfl #[.string a1, .string a0] rfl (by (try simp only [List.map_toArray, List.map_cons, List.map_nil]); first | done | rfl | (simp only [List.length_drop, List.length_take]; rfl)) ?_; (with_reducible refine (musterref01_Starts.calls a1 a0 false _ A15.out).mono ?_); rintro e w' ⟨rfl, ⟨nd, rfl⟩⟩; refine ⟨_, rfl, ?_⟩))
                  go_ret
                  exact ⟨by first | rfl | (simp [errW_none, errW_some] <;> rfl) | (simp [*, errW_none, errW_some] <;> rfl), by repeat (first | (with_reducible first | exact HB.out | apply below_alloc | apply pw_below_drewN | apply below_drew1) | exact HB.out)⟩
                · rw [if_neg c18] at H
                  have c18b0 : (Op.bytesLess a1.toList a0.toList) = false := by simpa using c18
                  clear c18
                  by_cases c19 : t106 = true
                  · subst c19
                    have H1 : (some (!(Op.bytesLess a1.toList t105.toList))) = some r := by rw [if_pos rfl] at H; exact H
                    clear H
                    have H := H1
                    clear H1
                    obtain rfl := Option.some.inj H
                    go_wp2_with (first | ((with_reducible refine gate_callee (f := 15) rfl ?_); refine goesL_ (some 41) rfl rfl Try.func15 (by kernel_rfl) rfl #[.string a1, .string a0] rfl (by (try simp only [List.map_toArray, List.map_cons, List.map_nil]); first | done | rfl | (simp only [List.length_drop, List.length_take]; rfl)) ?_; (with_reducible refine (musterref01_Starts.calls a1 a0 false _ A15.out).mono ?_); rintro e w' ⟨rfl, ⟨nd, rfl⟩⟩; refine ⟨_, rfl, ?_⟩))
                    go_ret
                    exact ⟨by first | rfl | (simp [errW_none, errW_some] <;> rfl) | (simp [*, errW_none, errW_some] <;> rfl), by repeat (first | (with_reducible first | exact HB.out | apply below_alloc | apply pw_below_drewN | apply below_drew1) | exact HB.out)⟩
                  · replace c19 := Bool.eq_false_iff.mpr c19
                    subst c19
                    have H1 : (some false) = some r := by rw [if_neg (show ¬ (false = true) by decide)] at H; exact H
                    clear H
                    have H := H1
                    clear H1
                    obtain rfl := Option.some.inj H
                    go_wp2_with (first | ((with_reducible refine gate_callee (f := 15) rfl ?_); refine goesL_ (some 41) rfl rfl Try.func15 (by kernel_rfl) rfl #[.string a1, .string a0] rfl (by (try simp only [List.map_toArray, List.map_cons, List.map_nil]); first | done | rfl | (simp only [List.length_drop, List.length_take]; rfl)) ?_; (with_reducible refine (musterref01_Starts.calls a1 a0 false _ A15.out).mono ?_); rintro e w' ⟨rfl, ⟨nd, rfl⟩⟩; refine ⟨_, rfl, ?_⟩))
                    go_ret
                    exact ⟨by first | rfl | (simp [errW_none, errW_some] <;> rfl) | (simp [*, errW_none, errW_some] <;> rfl), by repeat (first | (with_reducible first | exact HB.out | apply below_alloc | apply pw_below_drewN | apply below_drew1) | exact HB.out)⟩

/-- THE ONE PURE STATEMENT of musterlaw01_KeysAfter: yours. -/
def musterlaw01_KeysAfter.Pure : Prop := ∀ (a0 : ByteArray) (a1 : ByteArray), a0.size ≤ 140737488351232 → a1.size ≤ 140737488351232 → ∃ k, musterlaw01_KeysAfter.f k a0 a1 = some true
theorem musterlaw01_KeysAfter.walk (P : musterlaw01_KeysAfter.Pure) (a0 : ByteArray) (a1 : ByteArray) (w : World) (w0 : a0.size ≤ 140737488351232) (w1 : a1.size ≤ 140737488351232) :
    Calls Try.prog 3 #[.string a0, .string a1] w fun e w' => e = .returned (.bool true) ∧ Below w.heap.size w w' := by
  obtain ⟨k, h⟩ := P a0 a1 w0 w1
  refine (musterlaw01_KeysAfter.calls k a0 a1 true w h).mono ?_
  rintro e w' ⟨rfl, hd⟩
  exact ⟨rfl, hd⟩

end Go.Proofs.Ytjkljhcfbgcgoaa.K
end
section
namespace Go.Proofs.Ytjkljhcfbgcgoaa.K
open Go.RowKit Go.Proofs.YtjkljhcfbgcgoaaW.PrintWords Go.Proofs.YtjkljhcfbgcgoaaW.PrintLast Go.Proofs.YtjkljhcfbgcgoaaW.PrintMore
attribute [local go_sem] max2_int min2_int max_two min_two max_three min_three max_four min_four   -- for this text's walks alone
set_option linter.unusedVariables false
set_option linter.unusedSimpArgs false

/-! ### keys_valid: function 30 -/
def keys_valid.f (a0_0 : Int) (a0_1 : ByteArray) (a0_2 : Int) : Option (Bool) := if a0_0 = 1 then (some (a0_2 == 0)) else (if a0_0 = 3 then (if a0_2 > 1 then (some false) else (some (a0_1.toList == ([] : List UInt8)))) else (if a0_0 = 2 then (some (a0_1.toList == ([] : List UInt8))) else (some false)))
set_option maxHeartbeats 8000000 in
set_option maxRecDepth 100000 in
theorem keys_valid.calls (a0_0 : Int) (a0_1 : ByteArray) (a0_2 : Int) (r : Bool) (w : World) (h : keys_valid.f a0_0 a0_1 a0_2 = some r) :
    Calls Try.prog 30 #[.agg #[.int .i64 a0_0, .string a0_1, .int .u64 a0_2]] w fun e w' => e = .returned (.bool r) ∧ Below w.heap.size w w' := by
  have hu36 := Try.underlying36
  have HB := Aside0.mk (Below.refl w.heap.size w)
  have H : (if a0_0 = 1 then (some (a0_2 == 0)) else (if a0_0 = 3 then (if a0_2 > 1 then (some false) else (some (a0_1.toList == ([] : List UInt8)))) else (if a0_0 = 2 then (some (a0_1.toList == ([] : List UInt8))) else (some false)))) = some r := h
  clear h
  by_cases c2 : a0_0 = 1
  · rw [if_pos c2] at H
    have c2b0 : (a0_0 == 1) = true := beq_iff_eq.mpr c2
    have c2b1 : (a0_0 != 1) = false := bne_eq_false_iff_eq.mpr c2
    clear c2
    obtain rfl := Option.some.inj H
    go_enter Try.func30, Try.ntmps30
    go_wp2_with (first | ((with_reducible refine gate_dst (N := 1) rfl ?_); refine box_event ?hg (N := 1) ?hd (cs := #[.int .i64 a0_0, .string a0_1, .int .u64 a0_2]) (t := 36) ?hr ?_; (case hd => rfl); (case hg => rfl); (case hr => first | (go_simp; done) | (go_simp; rfl)); intro gb108 hg w3 hbox hb; have n0_ := Aside0.mk (below_step (by repeat (first | (with_reducible first | exact HB.out | apply below_alloc | apply pw_below_drewN | apply below_drew1) | exact HB.out)) hb); have n1_ := Aside0.mk (hbox); have n2_ := Aside0.mk ((by rw [hg]; exact (below_size (by repeat (first | (with_reducible first | exact HB.out | apply below_alloc | apply pw_below_drewN | apply below_drew1) | exact HB.out))) : w.heap.size ≤ gb108)); have n3_ := Aside0.mk ((by rw [hg]; exact (below_size (by repeat (first | (with_reducible first | exact HB.out | apply below_alloc | apply pw_below_drewN | apply below_drew1) | exact HB.out))) : w.heap.size ≤ gb108)); clear HB; have HB := n0_; have BK108 := n1_; have GW108 := n2_; have GE108 := n3_; clear n0_ n1_ n2_ n3_; clear hb hbox hg; have hcz4_0 : w3.cell? ⟨gb108, 0, none⟩ = some (.int .i64 a0_0) := (blk_cell BK108.out 0).trans rfl; have hcz4_1 : w3.cell? ⟨gb108, 1, none⟩ = some (.string a0_1) := (blk_cell BK108.out 1).trans rfl; have hcz4_2 : w3.cell? ⟨gb108, 2, none⟩ = some (.int .u64 a0_2) := (blk_cell BK108.out 2).trans rfl; have hfz4_0 := blk_frozen BK108.out 0; have hfz4_1 := blk_frozen BK108.out 1; have hfz4_2 := blk_frozen BK108.out 2))
    go_ret
    exact ⟨by first | rfl | (simp [errW_none, errW_some] <;> rfl) | (simp [*, errW_none, errW_some] <;> rfl), by repeat (first | (with_reducible first | exact HB.out | apply below_alloc | apply pw_below_drewN | apply below_drew1 | refine below_set ?_ GE108.out) | exact HB.out)⟩
  · rw [if_neg c2] at H
    have c2b0 : (a0_0 == 1) = false := beq_eq_false_iff_ne.mpr c2
    have c2b1 : (a0_0 != 1) = true := bne_iff_ne.mpr c2
    by_cases c5 : a0_0 = 3
    · rw [if_pos c5] at H
      have c5b0 : (a0_0 == 3) = true := beq_iff_eq.mpr c5
      have c5b1 : (a0_0 != 3) = false := bne_eq_false_iff_eq.mpr c5
      clear c5
      by_cases c6 : a0_2 > 1
      · rw [if_pos c6] at H
        have c6b0 : decide (1 < a0_2) = true := decide_eq_true c6
        clear c6
        obtain rfl := Option.some.inj H
        go_enter Try.func30, Try.ntmps30
        go_wp2_with (first | ((with_reducible refine gate_dst (N := 1) rfl ?_); refine box_event ?hg (N := 1) ?hd (cs := #[.int .i64 a0_0, .string a0_1, .int .u64 a0_2]) (t := 36) ?hr ?_; (case hd => rfl); (case hg => rfl); (case hr => first | (go_simp; done) | (go_simp; rfl)); intro gb108 hg w7 hbox hb; have n0_ := Aside0.mk (below_step (by repeat (first | (with_reducible first | exact HB.out | apply below_alloc | apply pw_below_drewN | apply below_drew1) | exact HB.out)) hb); have n1_ := Aside0.mk (hbox); have n2_ := Aside0.mk ((by rw [hg]; exact (below_size (by repeat (first | (with_reducible first | exact HB.out | apply below_alloc | apply pw_below_drewN | apply below_drew1) | exact HB.out))) : w.heap.size ≤ gb108)); have n3_ := Aside0.mk ((by rw [hg]; exact (below_size (by repeat (first | (with_reducible first | exact HB.out | apply below_alloc | apply pw_below_drewN | apply below_drew1) | exact HB.out))) : w.heap.size ≤ gb108)); clear HB; have HB := n0_; have BK108 := n1_; have GW108 := n2_; have GE108 := n3_; clear n0_ n1_ n2_ n3_; clear hb hbox hg; have hcz8_0 : w7.cell? ⟨gb108, 0, none⟩ = some (.int .i64 a0_0) := (blk_cell BK108.out 0).trans rfl; have hcz8_1 : w7.cell? ⟨gb108, 1, none⟩ = some (.string a0_1) := (blk_cell BK108.out 1).trans rfl; have hcz8_2 : w7.cell? ⟨gb108, 2, none⟩ = some (.int .u64 a0_2) := (blk_cell BK108.out 2).trans rfl; have hfz8_0 := blk_frozen BK108.out 0; have hfz8_1 := blk_frozen BK108.out 1; have hfz8_2 := blk_frozen BK108.out 2))
        go_ret
        exact ⟨by first | rfl | (simp [errW_none, errW_some] <;> rfl) | (simp [*, errW_none, errW_some] <;> rfl), by repeat (first | (with_reducible first | exact HB.out | apply below_alloc | apply pw_below_drewN | apply below_drew1 | refine below_set ?_ GE108.out) | exact HB.out)⟩
      · rw [if_neg c6] at H
        have c6b0 : decide (1 < a0_2) = false := decide_eq_false c6
        clear c6
        obtain rfl := Option.some.inj H
        go_enter Try.func30, Try.ntmps30
        go_wp2_with (first | ((with_reducible refine gate_dst (N := 1) rfl ?_); refine box_event ?hg (N := 1) ?hd (cs := #[.int .i64 a0_0, .string a0_1, .int .u64 a0_2]) (t := 36) ?hr ?_; (case hd => rfl); (case hg => rfl); (case hr => first | (go_simp; done) | (go_simp; rfl)); intro gb108 hg w9 hbox hb; have n0_ := Aside0.mk (below_step (by repeat (first | (with_reducible first | exact HB.out | apply below_alloc | apply pw_below_drewN | apply below_drew1) | exact HB.out)) hb); have n1_ := Aside0.mk (hbox); have n2_ := Aside0.mk ((by rw [hg]; exact (below_size (by repeat (first | (with_reducible first | exact HB.out | apply below_alloc | apply pw_below_drewN | apply below_drew1) | exact HB.out))) : w.heap.size ≤ gb108)); have n3_ := Aside0.mk ((by rw [hg]; exact (below_size (by repeat (first | (with_reducible first | exact HB.out | apply below_alloc | apply pw_below_drewN | apply below_drew1) | exact HB.out))) : w.heap.size ≤ gb108)); clear HB; have HB := n0_; have BK108 := n1_; have GW108 := n2_; have GE108 := n3_; clear n0_ n1_ n2_ n3_; clear hb hbox hg; have hcz10_0 : w9.cell? ⟨gb108, 0, none⟩ = some (.int .i64 a0_0) := (blk_cell BK108.out 0).trans rfl; have hcz10_1 : w9.cell? ⟨gb108, 1, none⟩ = some (.string a0_1) := (blk_cell BK108.out 1).trans rfl; have hcz10_2 : w9.cell? ⟨gb108, 2, none⟩ = some (.int .u64 a0_2) := (blk_cell BK108.out 2).trans rfl; have hfz10_0 := blk_frozen BK108.out 0; have hfz10_1 := blk_frozen BK108.out 1; have hfz10_2 := blk_frozen BK108.out 2))
        go_ret
        exact ⟨by first | rfl | (simp [errW_none, errW_some] <;> rfl) | (simp [*, errW_none, errW_some] <;> rfl), by repeat (first | (with_reducible first | exact HB.out | apply below_alloc | apply pw_below_drewN | apply below_drew1 | refine below_set ?_ GE108.out) | exact HB.out)⟩
    · rw [if_neg c5] at H
      have c5b0 : (a0_0 == 3) = false := beq_eq_false_iff_ne.mpr c5
      have c5b1 : (a0_0 != 3) = true := bne_iff_ne.mpr c5
      by_cases c11 : a0_0 = 2
      · rw [if_pos c11] at H
        have c11b0 : (a0_0 == 2) = true := beq_iff_eq.mpr c11
        have c11b1 : (a0_0 != 2) = false := bne_eq_false_iff_eq.mpr c11
        clear c11
        obtain rfl := Option.some.inj H
        go_enter Try.func30, Try.ntmps30
        go_wp2_with (first | ((with_reducible refine gate_dst (N := 1) rfl ?_); refine box_event ?hg (N := 1) ?hd (cs := #[.int .i64 a0_0, .string a0_1, .int .u64 a0_2]) (t := 36) ?hr ?_; (case hd => rfl); (case hg => rfl); (case hr => first | (go_simp; done) | (go_simp; rfl)); intro gb108 hg w12 hbox hb; have n0_ := Aside0.mk (below_step (by repeat (first | (with_reducible first | exact HB.out | apply below_alloc | apply pw_below_drewN | apply below_drew1) | exact HB.out)) hb); have n1_ := Aside0.mk (hbox); have n2_ := Aside0.mk ((by rw [hg]; exact (below_size (by repeat (first | (with_reducible first | exact HB.out | apply below_alloc | apply pw_below_drewN | apply below_drew1) | exact HB.out))) : w.heap.size ≤ gb108)); have n3_ := Aside0.mk ((by rw [hg]; exact (below_size (by repeat (first | (with_reducible first | exact HB.out | apply below_alloc | apply pw_below_drewN | apply below_drew1) | exact HB.out))) : w.heap.size ≤ gb108)); clear HB; have HB := n0_; have BK108 := n1_; have GW108 := n2_; have GE108 := n3_; clear n0_ n1_ n2_ n3_; clear hb hbox hg; have hcz13_0 : w12.cell? ⟨gb108, 0, none⟩ = some (.int .i64 a0_0) := (blk_cell BK108.out 0).trans rfl; have hcz13_1 : w12.cell? ⟨gb108, 1, none⟩ = some (.string a0_1) := (blk_cell BK108.out 1).trans rfl; have hcz13_2 : w12.cell? ⟨gb108, 2, none⟩ = some (.int .u64 a0_2) := (blk_cell BK108.out 2).trans rfl; have hfz13_0 := blk_frozen BK108.out 0; have hfz13_1 := blk_frozen BK108.out 1; have hfz13_2 := blk_frozen BK108.out 2))
        go_ret
        exact ⟨by first | rfl | (simp [errW_none, errW_some] <;> rfl) | (simp [*, errW_none, errW_some] <;> rfl), by repeat (first | (with_reducible first | exact HB.out | apply below_alloc | apply pw_below_drewN | apply below_drew1 | refine below_set ?_ GE108.out) | exact HB.out)⟩
      · rw [if_neg c11] at H
        have c11b0 : (a0_0 == 2) = false := beq_eq_false_iff_ne.mpr c11
        have c11b1 : (a0_0 != 2) = true := bne_iff_ne.mpr c11
        obtain rfl := Option.some.inj H
        go_enter Try.func30, Try.ntmps30
        go_wp2_with (first | ((with_reducible refine gate_dst (N := 1) rfl ?_); refine box_event ?hg (N := 1) ?hd (cs := #[.int .i64 a0_0, .string a0_1, .int .u64 a0_2]) (t := 36) ?hr ?_; (case hd => rfl); (case hg => rfl); (case hr => first | (go_simp; done) | (go_simp; rfl)); intro gb108 hg w14 hbox hb; have n0_ := Aside0.mk (below_step (by repeat (first | (with_reducible first | exact HB.out | apply below_alloc | apply pw_below_drewN | apply below_drew1) | exact HB.out)) hb); have n1_ := Aside0.mk (hbox); have n2_ := Aside0.mk ((by rw [hg]; exact (below_size (by repeat (first | (with_reducible first | exact HB.out | apply below_alloc | apply pw_below_drewN | apply below_drew1) | exact HB.out))) : w.heap.size ≤ gb108)); have n3_ := Aside0.mk ((by rw [hg]; exact (below_size (by repeat (first | (with_reducible first | exact HB.out | apply below_alloc | apply pw_below_drewN | apply below_drew1) | exact HB.out))) : w.heap.size ≤ gb108)); clear HB; have HB := n0_; have BK108 := n1_; have GW108 := n2_; have GE108 := n3_; clear n0_ n1_ n2_ n3_; clear hb hbox hg; have hcz15_0 : w14.cell? ⟨gb108, 0, none⟩ = some (.int .i64 a0_0) := (blk_cell BK108.out 0).trans rfl; have hcz15_1 : w14.cell? ⟨gb108, 1, none⟩ = some (.string a0_1) := (blk_cell BK108.out 1).trans rfl; have hcz15_2 : w14.cell? ⟨gb108, 2, none⟩ = some (.int .u64 a0_2) := (blk_cell BK108.out 2).trans rfl; have hfz15_0 := blk_frozen BK108.out 0; have hfz15_1 := blk_frozen BK108.out 1; have hfz15_2 := blk_frozen BK108.out 2))
        go_ret
        exact ⟨by first | rfl | (simp [errW_none, errW_some] <;> rfl) | (simp [*, errW_none, errW_some] <;> rfl), by repeat (first | (with_reducible first | exact HB.out | apply below_alloc | apply pw_below_drewN | apply below_drew1 | refine below_set ?_ GE108.out) | exact HB.out)⟩

end Go.Proofs.Ytjkljhcfbgcgoaa.K
end
section
namespace Go.Proofs.Ytjkljhcfbgcgoaa.K
open Go.RowKit Go.Proofs.YtjkljhcfbgcgoaaW.PrintWords Go.Proofs.YtjkljhcfbgcgoaaW.PrintLast Go.Proofs.YtjkljhcfbgcgoaaW.PrintMore
attribute [local go_sem] max2_int min2_int max_two min_two max_three min_three max_four min_four   -- for this text's walks alone
set_option linter.unusedVariables false
set_option linter.unusedSimpArgs false

-- NOT PRINTED: function 46 (abi_NoEscape)

end Go.Proofs.Ytjkljhcfbgcgoaa.K
end
section
namespace Go.Proofs.Ytjkljhcfbgcgoaa.K
open Go.RowKit Go.Proofs.YtjkljhcfbgcgoaaW.PrintWords Go.Proofs.YtjkljhcfbgcgoaaW.PrintLast Go.Proofs.YtjkljhcfbgcgoaaW.PrintMore
attribute [local go_sem] max2_int min2_int max_two min_two max_three min_three max_four min_four   -- for this text's walks alone
set_option linter.unusedVariables false
set_option linter.unusedSimpArgs false

-- NOT PRINTED: function 45 (strings_Builder_copyCheck)

end Go.Proofs.Ytjkljhcfbgcgoaa.K
end
section
namespace Go.Proofs.Ytjkljhcfbgcgoaa.K
open Go.RowKit Go.Proofs.YtjkljhcfbgcgoaaW.PrintWords Go.Proofs.YtjkljhcfbgcgoaaW.PrintLast Go.Proofs.YtjkljhcfbgcgoaaW.PrintMore
attribute [local go_sem] max2_int min2_int max_two min_two max_three min_three max_four min_four   -- for this text's walks alone
set_option linter.unusedVariables false
set_option linter.unusedSimpArgs false

-- NOT PRINTED: function 43 (strings_Builder_WriteByte)

end Go.Proofs.Ytjkljhcfbgcgoaa.K
end
section
namespace Go.Proofs.Ytjkljhcfbgcgoaa.K
open Go.RowKit Go.Proofs.YtjkljhcfbgcgoaaW.PrintWords Go.Proofs.YtjkljhcfbgcgoaaW.PrintLast Go.Proofs.YtjkljhcfbgcgoaaW.PrintMore
attribute [local go_sem] max2_int min2_int max_two min_two max_three min_three max_four min_four   -- for this text's walks alone
set_option linter.unusedVariables false
set_option linter.unusedSimpArgs false

-- NOT PRINTED: function 44 (strings_Builder_WriteString)

end Go.Proofs.Ytjkljhcfbgcgoaa.K
end
section
namespace Go.Proofs.Ytjkljhcfbgcgoaa.K
open Go.RowKit Go.Proofs.YtjkljhcfbgcgoaaW.PrintWords Go.Proofs.YtjkljhcfbgcgoaaW.PrintLast Go.Proofs.YtjkljhcfbgcgoaaW.PrintMore
attribute [local go_sem] max2_int min2_int max_two min_two max_three min_three max_four min_four   -- for this text's walks alone
set_option linter.unusedVariables false
set_option linter.unusedSimpArgs false

-- NOT PRINTED: function 37 (keys_write)

end Go.Proofs.Ytjkljhcfbgcgoaa.K
end
section
namespace Go.Proofs.Ytjkljhcfbgcgoaa.K
open Go.RowKit Go.Proofs.YtjkljhcfbgcgoaaW.PrintWords Go.Proofs.YtjkljhcfbgcgoaaW.PrintLast Go.Proofs.YtjkljhcfbgcgoaaW.PrintMore
attribute [local go_sem] max2_int min2_int max_two min_two max_three min_three max_four min_four   -- for this text's walks alone
set_option linter.unusedVariables false
set_option linter.unusedSimpArgs false

-- NOT PRINTED: function 38 (strings_Builder_Len)

end Go.Proofs.Ytjkljhcfbgcgoaa.K
end
section
namespace Go.Proofs.Ytjkljhcfbgcgoaa.K
open Go.RowKit Go.Proofs.YtjkljhcfbgcgoaaW.PrintWords Go.Proofs.YtjkljhcfbgcgoaaW.PrintLast Go.Proofs.YtjkljhcfbgcgoaaW.PrintMore
attribute [local go_sem] max2_int min2_int max_two min_two max_three min_three max_four min_four   -- for this text's walks alone
set_option linter.unusedVariables false
set_option linter.unusedSimpArgs false

-- NOT PRINTED: function 39 (strings_Builder_String)

end Go.Proofs.Ytjkljhcfbgcgoaa.K
end
section
namespace Go.Proofs.Ytjkljhcfbgcgoaa.K
open Go.RowKit Go.Proofs.YtjkljhcfbgcgoaaW.PrintWords Go.Proofs.YtjkljhcfbgcgoaaW.PrintLast Go.Proofs.YtjkljhcfbgcgoaaW.PrintMore
attribute [local go_sem] max2_int min2_int max_two min_two max_three min_three max_four min_four   -- for this text's walks alone
set_option linter.unusedVariables false
set_option linter.unusedSimpArgs false

/-! ### keys_whole: function 28 -/
-- HAND
def kvalid (p : S36) : Bool := keys_valid.f p.f0 p.f1 p.f2 == some true
def wholeI (l : List S36) (a : Bool) (i : Nat) : List Int := (List.range i).flatMap fun (j : Nat) => Hw.kpc (rd_T36 l j).f0 (rd_T36 l j).f1 (rd_T36 l j).f2 (a && ((j : Int) == (l.length : Int) - 1))
def keys_whole.f (l0 : List S36) (a1 : Bool) : Option (ByteArray × Int) :=
  if l0.all kvalid then (if (wholeI l0 a1 l0.length).length + 2 ≤ 140737488355328 then (if (wholeI l0 a1 l0.length).length > 1024 then some (⟨#[]⟩, 11) else some (strOfNums (wholeI l0 a1 l0.length), 0)) else none) else some (⟨#[]⟩, 10)
theorem wholeI_succ (l : List S36) (a : Bool) (i : Nat) : wholeI l a (i + 1) = wholeI l a i ++ Hw.kpc (rd_T36 l i).f0 (rd_T36 l i).f1 (rd_T36 l i).f2 (a && ((i : Int) == (l.length : Int) - 1)) := by simp [wholeI, List.range_succ]
theorem wholeI_mono (l : List S36) (a : Bool) (i n : Nat) (h : i ≤ n) : (wholeI l a i).length ≤ (wholeI l a n).length := by
  induction n with
  | zero => have : i = 0 := by omega
            subst this; exact Nat.le_refl _
  | succ n ih =>
    rcases Nat.lt_or_ge i (n + 1) with h' | h'
    · rw [wholeI_succ, List.length_append]; have := ih (by omega); omega
    · have : i = n + 1 := by omega
      subst this; exact Nat.le_refl _
theorem wholeI_range (l : List S36) (a : Bool) (i : Nat) : ∀ x ∈ wholeI l a i, 0 ≤ x ∧ x ≤ 255 := by
  intro x hx
  simp only [wholeI, List.mem_flatMap] at hx
  obtain ⟨j, _, hx⟩ := hx
  exact Hw.kpc_range _ _ _ _ x hx
theorem kvalid_kind (p : S36) (h : kvalid p = true) : p.f0 = 1 ∨ p.f0 = 2 ∨ p.f0 = 3 := by
  unfold kvalid keys_valid.f at h
  split at h
  · simp_all
  · split at h
    · simp_all
    · split at h
      · simp_all
      · simp at h
theorem valid_some (p : S36) : ∃ r, keys_valid.f p.f0 p.f1 p.f2 = some r ∧ kvalid p = r := by
  unfold kvalid keys_valid.f
  split
  · exact ⟨_, rfl, by simp⟩
  · split
    · split
      · exact ⟨_, rfl, by simp⟩
      · exact ⟨_, rfl, by simp⟩
    · split
      · exact ⟨_, rfl, by simp⟩
      · exact ⟨_, rfl, by simp⟩
theorem all_kvalid (l : List S36) : l.all kvalid = true ↔ ∀ j : Nat, j < l.length → kvalid (rd_T36 l j) = true := by
  rw [List.all_eq_true]
  constructor
  · intro h j hj
    refine h _ ?_
    simp only [rd_T36, Int.toNat_natCast, List.getD_eq_getElem?_getD, List.getElem?_eq_getElem hj, Option.getD_some]
    exact List.getElem_mem hj
  · intro h x hx
    obtain ⟨j, hj, rfl⟩ := List.getElem_of_mem hx
    have := h j hj
    simpa only [rd_T36, Int.toNat_natCast, List.getD_eq_getElem?_getD, List.getElem?_eq_getElem hj, Option.getD_some] using this

set_option maxHeartbeats 8000000 in
set_option maxRecDepth 100000 in
theorem keys_whole.calls (A0 : Option Addr) (c0 : Nat) (l0 : List S36) (a1 : Bool) (r1 : ByteArray) (r2 : Int) (w : World) (hr0 : Kd.C k36 w A0 l0.length l0) (hc0 : l0.length ≤ c0) (h : keys_whole.f l0 a1 = some (r1, r2)) :
    Calls Try.prog 28 #[.slice A0 l0.length c0, .bool a1] w fun e w' => e = .returned (.tuple #[.string r1, .int .i64 r2]) ∧ Below w.heap.size w w' := by
  have hu36 := Try.underlying36
  have HR0 := Aside0.mk hr0
  have HC0 := Aside0.mk hc0
  have HF := Aside0.mk h
  have hlm := Kd.C_max hr0
  clear hr0 hc0 h
  have HB := Aside0.mk (Below.refl w.heap.size w)
  go_enter Try.func28, Try.ntmps28
  go_wp2
  go_loopg [13] l0.length (fun kq v13 w' => ∃ k : Nat, v13 = .int .i64 k ∧ Aside0 (k + kq = l0.length) ∧ Aside0 (∀ j : Nat, j < k → kvalid (rd_T36 l0 j) = true) ∧ Aside0 (Below w.heap.size w w'))
  case atStart => exact ⟨0, rfl, ⟨by omega⟩, ⟨fun j hj => absurd hj (by omega)⟩, HB⟩
  case round =>
    obtain ⟨k, rfl, HJ, HV, HB⟩ := hrel
    by_cases hk : k < l0.length
    · obtain ⟨ad, e109, hx0, hx1, hx2⟩ := at_T36 HR0.out k (by omega) (by omega)
      cases e109
      replace hx0 := (HB.out.cell (World.block_lt_of_cell? w _ hx0)).trans hx0
      replace hx1 := (HB.out.cell (World.block_lt_of_cell? w _ hx1)).trans hx1
      replace hx2 := (HB.out.cell (World.block_lt_of_cell? w _ hx2)).trans hx2
      rw [Int.toNat_natCast] at hx0 hx1 hx2
      obtain ⟨r, hr, hv⟩ := valid_some (rd_T36 l0 k)
      have HR := Aside0.mk hr
      have HVK := Aside0.mk hv
      clear hr hv
      generalize (rd_T36 l0 k).f0 = p0 at *
      generalize (rd_T36 l0 k).f1 = p1 at *
      generalize (rd_T36 l0 k).f2 = p2 at *
      cases r with
      | false =>
        have hno : l0.all kvalid = false := by
          rw [Bool.eq_false_iff]
          intro h
          have := (all_kvalid l0).1 h k hk
          rw [HVK.out] at this
          exact absurd this (by decide)
        have HF' := HF.out
        unfold keys_whole.f at HF'
        rw [hno] at HF'
        simp only [Bool.false_eq_true, if_false, Option.some.injEq, Prod.mk.injEq] at HF'
        obtain ⟨rfl, rfl⟩ := HF'
        clear hno HF
        go_wp2_with fail
        refine (keys_valid.calls _ _ _ _ _ HR.out).mono ?_
        rintro e w2 ⟨rfl, hb⟩
        have HB2 := Aside0.mk (below_step (below_alloc HB.out _) hb)
        clear hb HB
        go_wp2_with fail
        go_ret2
        exact ⟨rfl, HB2.out⟩
      | true =>
        go_wp2_with fail
        refine (keys_valid.calls _ _ _ _ _ HR.out).mono ?_
        rintro e w2 ⟨rfl, hb⟩
        have HB2 := Aside0.mk (below_step (below_alloc HB.out _) hb)
        clear hb HB hx0 hx1 hx2
        go_wp2_with fail
        go_roundg (gk - 1)
        case measure => have := HJ.out; omega
        case rel =>
          refine ⟨k + 1, by simp, ⟨by have := HJ.out; omega⟩, ⟨fun j hj => ?_⟩, HB2⟩
          rcases Nat.lt_or_ge j k with h' | h'
          · exact HV.out j h'
          · have : j = k := by omega
            subst this; exact HVK.out
    · have hkk : k = l0.length := by have := HJ.out; omega
      subst hkk
      have hall : l0.all kvalid = true := (all_kvalid l0).2 HV.out
      have HF' := HF.out
      unfold keys_whole.f at HF'
      rw [hall] at HF'
      simp only [if_true] at HF'
      have hbd : (wholeI l0 a1 l0.length).length + 2 ≤ 140737488355328 := by
        rcases Nat.lt_or_ge 140737488355328 ((wholeI l0 a1 l0.length).length + 2) with h' | h'
        · rw [if_neg (by omega)] at HF'; simp at HF'
        · exact h'
      rw [if_pos hbd] at HF'
      have HBD0 := Aside0.mk hbd
      clear hbd
      have HF2 := Aside0.mk HF'
      clear HF' hall HF hk
      go_wp2_with fail
      generalize hw1 : wr.alloc (.cells #[.pointer none, .slice none 0 0] 62) = w1
      have HBD : Aside0 (Bd.Bld wr.heap.size wr.heap.size [] w1) := ⟨by rw [← hw1]; exact Bd.Bld.fresh wr⟩
      have HB1 : Aside0 (Below w.heap.size w w1) := ⟨by rw [← hw1]; exact below_alloc HB.out _⟩
      have HSZ := Aside0.mk HB.out.size
      clear hw1
      generalize wr.heap.size = b0 at *
      go_loopg [23] l0.length (fun kq v23 w' => ∃ k : Nat, v23 = .int .i64 k ∧ Aside0 (k + kq = l0.length) ∧ Aside0 (Bd.Bld b0 b0 (wholeI l0 a1 k) w') ∧ Aside0 (Bd.Kp b0 b0 w1 w'))
      case atStart => exact ⟨0, rfl, ⟨by omega⟩, HBD, ⟨Bd.Kp.refl _ _ _⟩⟩
      case round =>
        obtain ⟨k, rfl, HJ, HBL, HK⟩ := hrel
        rename_i gk2 wr2 _ _ _
        by_cases hk : k < l0.length
        · obtain ⟨ad, e109, hx0, hx1, hx2⟩ := at_T36 HR0.out k (by omega) (by omega)
          cases e109
          have HB2 := Aside0.mk (HB1.out.trans (HK.out.bel.mono HSZ.out))
          replace hx0 := (HB2.out.cell (World.block_lt_of_cell? w _ hx0)).trans hx0
          replace hx1 := (HB2.out.cell (World.block_lt_of_cell? w _ hx1)).trans hx1
          replace hx2 := (HB2.out.cell (World.block_lt_of_cell? w _ hx2)).trans hx2
          rw [Int.toNat_natCast] at hx0 hx1 hx2
          have HVK := Aside0.mk (kvalid_kind _ (HV.out k hk))
          have HWS := Aside0.mk (wholeI_succ l0 a1 k)
          generalize (rd_T36 l0 k).f0 = p0 at *
          generalize (rd_T36 l0 k).f1 = p1 at *
          generalize (rd_T36 l0 k).f2 = p2 at *
          obtain ⟨q, hq⟩ : ∃ q : Bool, ((k : Int) == (l0.length : Int) - 1) = q := ⟨_, rfl⟩
          rw [hq] at HWS
          cases a1 with
          | true =>
            go_wp2_with fail
            refine (Hw.write_any b0 b0 _ p0 p1 p2 q _ (HBL.out.alloc _) HVK.out (by have h1 := wholeI_mono l0 true (k + 1) l0.length hk; rw [HWS.out, List.length_append] at h1; simp only [Bool.true_and] at h1; have := HBD0.out; omega)).mono ?_
            rintro e w3 ⟨rfl, h3, k3⟩
            have HBL3 : Aside0 (Bd.Bld b0 b0 (wholeI l0 true (k + 1)) w3) := ⟨by rw [HWS.out]; exact h3⟩
            have HK3 := Aside0.mk ((HK.out.alloc (by have := HBL.out.lt; omega) _).trans k3)
            clear h3 k3 HBL HK hx0 hx1 hx2 HB2
            go_wp2_with fail
            go_roundg (gk - 1)
            case measure => have := HJ.out; omega
            case rel => exact ⟨k + 1, by simp, ⟨by have := HJ.out; omega⟩, HBL3, HK3⟩
          | false =>
            go_wp2_with fail
            refine (Hw.write_any b0 b0 _ p0 p1 p2 false _ (HBL.out.alloc _) HVK.out (by have h1 := wholeI_mono l0 false (k + 1) l0.length hk; rw [HWS.out, List.length_append] at h1; simp only [Bool.false_and] at h1; have := HBD0.out; omega)).mono ?_
            rintro e w3 ⟨rfl, h3, k3⟩
            have HBL3 : Aside0 (Bd.Bld b0 b0 (wholeI l0 false (k + 1)) w3) := ⟨by rw [HWS.out]; exact h3⟩
            have HK3 := Aside0.mk ((HK.out.alloc (by have := HBL.out.lt; omega) _).trans k3)
            clear h3 k3 HBL HK hx0 hx1 hx2 HB2
            go_wp2_with fail
            go_roundg (gk - 1)
            case measure => have := HJ.out; omega
            case rel => exact ⟨k + 1, by simp, ⟨by have := HJ.out; omega⟩, HBL3, HK3⟩
        · have hkk : k = l0.length := by have := HJ.out; omega
          subst hkk
          clear hk
          have hrg := Aside0.mk (wholeI_range l0 a1 l0.length)
          have HBF := Aside0.mk (HB1.out.trans (HK.out.bel.mono HSZ.out))
          by_cases hbig : 1024 < (wholeI l0 a1 l0.length).length
          · have HF' := HF2.out
            rw [if_pos hbig] at HF'
            simp only [Option.some.injEq, Prod.mk.injEq] at HF'
            obtain ⟨rfl, rfl⟩ := HF'
            clear HF2
            have hbb : decide (1024 < ((wholeI l0 a1 l0.length).length : Int)) = true := by simp; omega
            generalize hbs : wholeI l0 a1 l0.length = bs at *
            have HBS := Aside0.mk hbs
            clear hbs
            go_wp2_with fail
            refine (Bd.blen b0 b0 _ _ HBL.out).mono ?_
            rintro e w3 ⟨rfl, rfl⟩
            go_wp2_with fail
            go_ret2
            exact ⟨rfl, HBF.out⟩
          · have HF' := HF2.out
            rw [if_neg hbig] at HF'
            simp only [Option.some.injEq, Prod.mk.injEq] at HF'
            obtain ⟨rfl, rfl⟩ := HF'
            clear HF2
            have hbb : decide (1024 < ((wholeI l0 a1 l0.length).length : Int)) = false := by simp; omega
            generalize hbs : wholeI l0 a1 l0.length = bs at *
            have HBS := Aside0.mk hbs
            clear hbs
            go_wp2_with fail
            refine (Bd.blen b0 b0 _ _ HBL.out).mono ?_
            rintro e w3 ⟨rfl, rfl⟩
            go_wp2_with fail
            refine (Bd.bstring b0 b0 _ _ HBL.out hrg.out).mono ?_
            rintro e w4 ⟨rfl, h4, k4⟩
            have HBG := Aside0.mk (HBF.out.trans (k4.bel.mono HSZ.out))
            clear h4 k4
            go_wp2_with fail
            go_ret2
            exact ⟨by rw [HBS.out]; rfl, HBG.out⟩


end Go.Proofs.Ytjkljhcfbgcgoaa.K
end
section
namespace Go.Proofs.Ytjkljhcfbgcgoaa.K
open Go.RowKit Go.Proofs.YtjkljhcfbgcgoaaW.PrintWords Go.Proofs.YtjkljhcfbgcgoaaW.PrintLast Go.Proofs.YtjkljhcfbgcgoaaW.PrintMore
attribute [local go_sem] max2_int min2_int max_two min_two max_three min_three max_four min_four   -- for this text's walks alone
set_option linter.unusedVariables false
set_option linter.unusedSimpArgs false

/-! ### keys_Encode: function 18 -/
def keys_Encode.f (l0 : List (S36)) : Option (ByteArray × Int) := (keys_whole.f l0 false).bind fun bt109 => (some (bt109.1, bt109.2))
set_option maxHeartbeats 8000000 in
set_option maxRecDepth 100000 in
theorem keys_Encode.calls (A0 : Option Addr) (c0 : Nat) (l0 : List (S36)) (r1 : ByteArray) (r2 : Int) (w : World) (hr0 : Kd.C k36 w A0 l0.length l0) (hc0 : l0.length ≤ c0) (h : keys_Encode.f l0 = some (r1, r2)) :
    Calls Try.prog 18 #[.slice A0 l0.length c0] w fun e w' => e = .returned (.tuple #[.string r1, .int .i64 r2]) ∧ Below w.heap.size w w' := by
  have HR0 := Aside0.mk hr0
  have HC0 := Aside0.mk hc0
  clear hr0 hc0
  have HB := Aside0.mk (Below.refl w.heap.size w)
  have H : ((keys_whole.f l0 false).bind fun bt109 => (some (bt109.1, bt109.2))) = some (r1, r2) := h
  clear h
  replace H := Option.bind_eq_some_iff.mp H
  obtain ⟨⟨t109, t110⟩, A20, H⟩ := H
  replace H : (some (t109, t110)) = some (r1, r2) := H
  have A2 := Aside0.mk A20
  clear A20
  simp only [Option.some.injEq, Prod.mk.injEq] at H
  obtain ⟨rfl, rfl⟩ := H
  go_enter Try.func18, Try.ntmps18
  go_wp2_with (first | ((with_reducible refine gate_callee (f := 28) rfl ?_); refine goesL_ (some 5) rfl rfl Try.func28 (by kernel_rfl) rfl #[.slice A0 l0.length c0, .bool false] rfl (by (try simp only [List.map_toArray, List.map_cons, List.map_nil]); first | done | rfl | (simp only [List.length_drop, List.length_take]; rfl)) ?_; (with_reducible refine (keys_whole.calls _ _ l0 false t109 t110 _ ?side1 ?side2 A2.out).mono ?_); (case side1 => repeat (first | exact HR0.out | (with_reducible refine Kd.C_alloc ?_ _) | (with_reducible refine Kd.C_drewN ?_ _) | (with_reducible refine Kd.C_drew ?_))); (case side2 => exact HC0.out); rintro e w3 ⟨rfl, hb⟩; refine ⟨_, rfl, ?_⟩; have n0_ := Aside0.mk (below_step (by repeat (first | (with_reducible first | exact HB.out | apply below_alloc | apply pw_below_drewN | apply below_drew1) | exact HB.out)) hb); clear HB; have HB := n0_; clear n0_; (try clear hb); (try clear hb2); (try clear hk); (try clear hi)))
  go_ret2
  exact ⟨by first | rfl | (simp [errW_none, errW_some] <;> rfl) | (simp [*, errW_none, errW_some] <;> rfl), by repeat (first | (with_reducible first | exact HB.out | apply below_alloc | apply pw_below_drewN | apply below_drew1) | exact HB.out)⟩

end Go.Proofs.Ytjkljhcfbgcgoaa.K
end
section
namespace Go.Proofs.Ytjkljhcfbgcgoaa.K
open Go.RowKit Go.Proofs.YtjkljhcfbgcgoaaW.PrintWords Go.Proofs.YtjkljhcfbgcgoaaW.PrintLast Go.Proofs.YtjkljhcfbgcgoaaW.PrintMore
attribute [local go_sem] max2_int min2_int max_two min_two max_three min_three max_four min_four   -- for this text's walks alone
set_option linter.unusedVariables false
set_option linter.unusedSimpArgs false

/-! ### musterlaw01_keysFixed: function 16 -/
def musterlaw01_keysFixed.f  : Option (Bool) := (keys_Encode.f (([(⟨1, (⟨#[97, 0]⟩ : ByteArray), 0⟩ : S36), (⟨2, (⟨#[]⟩ : ByteArray), 258⟩ : S36)] : List (S36)))).bind fun bt114 => (if bt114.1.toList = ([1, 97, 0, 255, 0, 1, 2, 0, 0, 0, 0, 0, 0, 1, 2] : List UInt8) then (some (bt114.2 == 0)) else (some false))
set_option maxHeartbeats 8000000 in
set_option maxRecDepth 100000 in
theorem musterlaw01_keysFixed.calls  (r : Bool) (w : World) (h : musterlaw01_keysFixed.f  = some r) :
    Calls Try.prog 16 #[] w fun e w' => e = .returned (.bool r) ∧ Below w.heap.size w w' := by
  have hu36 := Try.underlying36
  have HB := Aside0.mk (Below.refl w.heap.size w)
  have H : ((keys_Encode.f (([(⟨1, (⟨#[97, 0]⟩ : ByteArray), 0⟩ : S36), (⟨2, (⟨#[]⟩ : ByteArray), 258⟩ : S36)] : List (S36)))).bind fun bt114 => (if bt114.1.toList = ([1, 97, 0, 255, 0, 1, 2, 0, 0, 0, 0, 0, 0, 1, 2] : List UInt8) then (some (bt114.2 == 0)) else (some false))) = some r := h
  clear h
  obtain ⟨y111, hy111⟩ : ∃ y_ : List (S36), y_ = (([(⟨1, (⟨#[97, 0]⟩ : ByteArray), 0⟩ : S36), (⟨2, (⟨#[]⟩ : ByteArray), 258⟩ : S36)] : List (S36))) := ⟨_, rfl⟩
  replace H : ((keys_Encode.f y111).bind fun bt114 => (if bt114.1.toList = ([1, 97, 0, 255, 0, 1, 2, 0, 0, 0, 0, 0, 0, 1, 2] : List UInt8) then (some (bt114.2 == 0)) else (some false))) = some r := by first | (rw [hy111]; with_reducible exact H) | (have H2_ := (Option.bind_some _ _).symm.trans H; rw [hy111]; with_reducible exact H2_) | (have H2_ := (Option.bind_some _ _).symm.trans H; with_reducible exact H2_) | with_reducible exact H | (rw [hy111]; exact H) | exact H
  have Ny111 := Aside0.mk hy111
  clear hy111
  replace H := Option.bind_eq_some_iff.mp H
  obtain ⟨⟨t114, t115⟩, A10, H⟩ := H
  replace H : (if t114.toList = ([1, 97, 0, 255, 0, 1, 2, 0, 0, 0, 0, 0, 0, 1, 2] : List UInt8) then (some (t115 == 0)) else (some false)) = some r := H
  have A1 := Aside0.mk A10
  clear A10
  by_cases c2 : t114.toList = ([1, 97, 0, 255, 0, 1, 2, 0, 0, 0, 0, 0, 0, 1, 2] : List UInt8)
  · rw [if_pos c2] at H
    have c2b0 : (t114.toList == ([1, 97, 0, 255, 0, 1, 2, 0, 0, 0, 0, 0, 0, 1, 2] : List UInt8)) = true := beq_iff_eq.mpr c2
    have c2b1 : (t114.toList != ([1, 97, 0, 255, 0, 1, 2, 0, 0, 0, 0, 0, 0, 1, 2] : List UInt8)) = false := bne_eq_false_iff_eq.mpr c2
    clear c2
    obtain rfl := Option.some.inj H
    go_enter Try.func16, Try.ntmps16
    go_wp2_with (first | ((with_reducible refine gate_dst (N := 6) rfl ?_); refine Kd.R_lit k36 _ 36 ?hg (N := 6) ?hd (xs := ([(⟨1, (⟨#[97, 0]⟩ : ByteArray), 0⟩ : S36), (⟨2, (⟨#[]⟩ : ByteArray), 258⟩ : S36)] : List (S36))) (inner := [.int .i64 1, .string (⟨#[97, 0]⟩ : ByteArray), .int .u64 0, .int .i64 2, .string (⟨#[]⟩ : ByteArray), .int .u64 258]) (ok := fun _ => True) (okp := fun _ => True) ?hr ?hp (fun _ hk => hk) trivial (Below.refl _ _) (Nat.le_refl _) (by simp) ?_; (case hd => rfl); (case hg => rfl); (case hr => first | (go_simp; done) | (go_simp; rfl)); (case hp => exact (Reps.c3 (show Kd.M k36 _ _ _ (⟨1, (⟨#[97, 0]⟩ : ByteArray), 0⟩ : S36) [.int .i64 1, .string (⟨#[97, 0]⟩ : ByteArray), .int .u64 0] from (k36_mkM _ _ _ (⟨1, (⟨#[97, 0]⟩ : ByteArray), 0⟩ : S36) )) (Reps.c3 (show Kd.M k36 _ _ _ (⟨2, (⟨#[]⟩ : ByteArray), 258⟩ : S36) [.int .i64 2, .string (⟨#[]⟩ : ByteArray), .int .u64 258] from (k36_mkM _ _ _ (⟨2, (⟨#[]⟩ : ByteArray), 258⟩ : S36) )) (Reps.none _ _)))); intro v112 w3 ho4 hb hg_ hnew_; clear hg_ hnew_; (first | rw [← Ny111.out] at ho4 | (simp only [Int.reduceToNat] at ho4; rw [← Ny111.out] at ho4)); have n0_ := Aside0.mk (Kd.R_lower ho4 (below_size (by repeat (first | (with_reducible first | exact HB.out | apply below_alloc | apply pw_below_drewN | apply below_drew1) | exact HB.out)))); have n1_ := Aside0.mk (below_step (by repeat (first | (with_reducible first | exact HB.out | apply below_alloc | apply pw_below_drewN | apply below_drew1) | exact HB.out)) hb); clear HB; have HO113 := n0_; have HB := n1_; clear n0_ n1_; clear hb ho4; obtain ⟨Ao5, co5, eo5⟩ := Kd.R_slice HO113.out; subst eo5) | ((with_reducible refine gate_callee (f := 18) rfl ?_); refine goesL_ (some 7) rfl rfl Try.func18 (by kernel_rfl) rfl #[.slice Ao5 y111.length co5] rfl (by (try simp only [List.map_toArray, List.map_cons, List.map_nil]); first | done | rfl | (simp only [List.length_drop, List.length_take]; rfl)) ?_; (with_reducible refine (keys_Encode.calls _ _ y111 t114 t115 _ ?side1 ?side2 A1.out).mono ?_); (case side1 => repeat (first | exact (Kd.R_reads' HO113.out).2.2 | (with_reducible refine Kd.C_alloc ?_ _) | (with_reducible refine Kd.C_drewN ?_ _) | (with_reducible refine Kd.C_drew ?_))); (case side2 => exact (Kd.R_reads' HO113.out).2.1); rintro e w6 ⟨rfl, hb⟩; refine ⟨_, rfl, ?_⟩; have n0_ := Aside0.mk (Kd.R_below (by (with_reducible repeat (first | apply Kd.R_alloc | apply Kd.R_drewN | apply Kd.R_drew)); exact HO113.out) hb); have n1_ := Aside0.mk (below_step (by repeat (first | (with_reducible first | exact HB.out | apply below_alloc | apply pw_below_drewN | apply below_drew1) | exact HB.out)) hb); clear HO113; clear HB; have HO113 := n0_; have HB := n1_; clear n0_ n1_; (try clear hb); (try clear hb2); (try clear hk); (try clear hi)))
    go_ret
    exact ⟨by first | rfl | (simp [errW_none, errW_some] <;> rfl) | (simp [*, errW_none, errW_some] <;> rfl), by repeat (first | (with_reducible first | exact HB.out | apply below_alloc | apply pw_below_drewN | apply below_drew1) | exact HB.out)⟩
  · rw [if_neg c2] at H
    have c2b0 : (t114.toList == ([1, 97, 0, 255, 0, 1, 2, 0, 0, 0, 0, 0, 0, 1, 2] : List UInt8)) = false := beq_eq_false_iff_ne.mpr c2
    have c2b1 : (t114.toList != ([1, 97, 0, 255, 0, 1, 2, 0, 0, 0, 0, 0, 0, 1, 2] : List UInt8)) = true := bne_iff_ne.mpr c2
    obtain rfl := Option.some.inj H
    go_enter Try.func16, Try.ntmps16
    go_wp2_with (first | ((with_reducible refine gate_dst (N := 6) rfl ?_); refine Kd.R_lit k36 _ 36 ?hg (N := 6) ?hd (xs := ([(⟨1, (⟨#[97, 0]⟩ : ByteArray), 0⟩ : S36), (⟨2, (⟨#[]⟩ : ByteArray), 258⟩ : S36)] : List (S36))) (inner := [.int .i64 1, .string (⟨#[97, 0]⟩ : ByteArray), .int .u64 0, .int .i64 2, .string (⟨#[]⟩ : ByteArray), .int .u64 258]) (ok := fun _ => True) (okp := fun _ => True) ?hr ?hp (fun _ hk => hk) trivial (Below.refl _ _) (Nat.le_refl _) (by simp) ?_; (case hd => rfl); (case hg => rfl); (case hr => first | (go_simp; done) | (go_simp; rfl)); (case hp => exact (Reps.c3 (show Kd.M k36 _ _ _ (⟨1, (⟨#[97, 0]⟩ : ByteArray), 0⟩ : S36) [.int .i64 1, .string (⟨#[97, 0]⟩ : ByteArray), .int .u64 0] from (k36_mkM _ _ _ (⟨1, (⟨#[97, 0]⟩ : ByteArray), 0⟩ : S36) )) (Reps.c3 (show Kd.M k36 _ _ _ (⟨2, (⟨#[]⟩ : ByteArray), 258⟩ : S36) [.int .i64 2, .string (⟨#[]⟩ : ByteArray), .int .u64 258] from (k36_mkM _ _ _ (⟨2, (⟨#[]⟩ : ByteArray), 258⟩ : S36) )) (Reps.none _ _)))); intro v112 w7 ho8 hb hg_ hnew_; clear hg_ hnew_; (first | rw [← Ny111.out] at ho8 | (simp only [Int.reduceToNat] at ho8; rw [← Ny111.out] at ho8)); have n0_ := Aside0.mk (Kd.R_lower ho8 (below_size (by repeat (first | (with_reducible first | exact HB.out | apply below_alloc | apply pw_below_drewN | apply below_drew1) | exact HB.out)))); have n1_ := Aside0.mk (below_step (by repeat (first | (with_reducible first | exact HB.out | apply below_alloc | apply pw_below_drewN | apply below_drew1) | exact HB.out)) hb); clear HB; have HO113 := n0_; have HB := n1_; clear n0_ n1_; clear hb ho8; obtain ⟨Ao9, co9, eo9⟩ := Kd.R_slice HO113.out; subst eo9) | ((with_reducible refine gate_callee (f := 18) rfl ?_); refine goesL_ (some 7) rfl rfl Try.func18 (by kernel_rfl) rfl #[.slice Ao9 y111.length co9] rfl (by (try simp only [List.map_toArray, List.map_cons, List.map_nil]); first | done | rfl | (simp only [List.length_drop, List.length_take]; rfl)) ?_; (with_reducible refine (keys_Encode.calls _ _ y111 t114 t115 _ ?side1 ?side2 A1.out).mono ?_); (case side1 => repeat (first | exact (Kd.R_reads' HO113.out).2.2 | (with_reducible refine Kd.C_alloc ?_ _) | (with_reducible refine Kd.C_drewN ?_ _) | (with_reducible refine Kd.C_drew ?_))); (case side2 => exact (Kd.R_reads' HO113.out).2.1); rintro e w10 ⟨rfl, hb⟩; refine ⟨_, rfl, ?_⟩; have n0_ := Aside0.mk (Kd.R_below (by (with_reducible repeat (first | apply Kd.R_alloc | apply Kd.R_drewN | apply Kd.R_drew)); exact HO113.out) hb); have n1_ := Aside0.mk (below_step (by repeat (first | (with_reducible first | exact HB.out | apply below_alloc | apply pw_below_drewN | apply below_drew1) | exact HB.out)) hb); clear HO113; clear HB; have HO113 := n0_; have HB := n1_; clear n0_ n1_; (try clear hb); (try clear hb2); (try clear hk); (try clear hi)))
    go_ret
    exact ⟨by first | rfl | (simp [errW_none, errW_some] <;> rfl) | (simp [*, errW_none, errW_some] <;> rfl), by repeat (first | (with_reducible first | exact HB.out | apply below_alloc | apply pw_below_drewN | apply below_drew1) | exact HB.out)⟩

end Go.Proofs.Ytjkljhcfbgcgoaa.K
end
section
namespace Go.Proofs.Ytjkljhcfbgcgoaa.K
open Go.RowKit Go.Proofs.YtjkljhcfbgcgoaaW.PrintWords Go.Proofs.YtjkljhcfbgcgoaaW.PrintLast Go.Proofs.YtjkljhcfbgcgoaaW.PrintMore
attribute [local go_sem] max2_int min2_int max_two min_two max_three min_three max_four min_four   -- for this text's walks alone
set_option linter.unusedVariables false
set_option linter.unusedSimpArgs false

/-! ### musterlaw01_KeysNames: function 4 -/
def musterlaw01_KeysNames.f  : Option (Bool) := (musterlaw01_keysFixed.f).bind fun t116 => (if t116 = true then (some true) else (some false))
set_option maxHeartbeats 8000000 in
set_option maxRecDepth 100000 in
theorem musterlaw01_KeysNames.calls  (r : Bool) (w : World) (h : musterlaw01_KeysNames.f  = some r) :
    Calls Try.prog 4 #[] w fun e w' => e = .returned (.bool r) ∧ Below w.heap.size w w' := by
  have HB := Aside0.mk (Below.refl w.heap.size w)
  have H : ((musterlaw01_keysFixed.f).bind fun t116 => (if t116 = true then (some true) else (some false))) = some r := h
  clear h
  replace H := Option.bind_eq_some_iff.mp H
  obtain ⟨t116, A10, H⟩ := H
  replace H : (if t116 = true then (some true) else (some false)) = some r := H
  have A1 := Aside0.mk A10
  clear A10
  by_cases c2 : t116 = true
  · subst c2
    have H1 : (some true) = some r := by rw [if_pos rfl] at H; exact H
    clear H
    have H := H1
    clear H1
    obtain rfl := Option.some.inj H
    go_enter Try.func4, Try.ntmps4
    go_wp2_with (first | ((with_reducible refine gate_callee (f := 16) rfl ?_); refine goesL_ (some 1) rfl rfl Try.func16 (by kernel_rfl) rfl #[] rfl (by (try simp only [List.map_toArray, List.map_cons, List.map_nil]); first | done | rfl | (simp only [List.length_drop, List.length_take]; rfl)) ?_; (with_reducible refine (musterlaw01_keysFixed.calls  true _ A1.out).mono ?_); rintro e w3 ⟨rfl, hb⟩; refine ⟨_, rfl, ?_⟩; have n0_ := Aside0.mk (below_step (by repeat (first | (with_reducible first | exact HB.out | apply below_alloc | apply pw_below_drewN | apply below_drew1) | exact HB.out)) hb); clear HB; have HB := n0_; clear n0_; (try clear hb); (try clear hb2); (try clear hk); (try clear hi)))
    go_ret
    exact ⟨by first | rfl | (simp [errW_none, errW_some] <;> rfl) | (simp [*, errW_none, errW_some] <;> rfl), by repeat (first | (with_reducible first | exact HB.out | apply below_alloc | apply pw_below_drewN | apply below_drew1) | exact HB.out)⟩
  · replace c2 := Bool.eq_false_iff.mpr c2
    subst c2
    have H1 : (some false) = some r := by rw [if_neg (show ¬ (false = true) by decide)] at H; exact H
    clear H
    have H := H1
    clear H1
    obtain rfl := Option.some.inj H
    go_enter Try.func4, Try.ntmps4
    go_wp2_with (first | ((with_reducible refine gate_callee (f := 16) rfl ?_); refine goesL_ (some 1) rfl rfl Try.func16 (by kernel_rfl) rfl #[] rfl (by (try simp only [List.map_toArray, List.map_cons, List.map_nil]); first | done | rfl | (simp only [List.length_drop, List.length_take]; rfl)) ?_; (with_reducible refine (musterlaw01_keysFixed.calls  false _ A1.out).mono ?_); rintro e w4 ⟨rfl, hb⟩; refine ⟨_, rfl, ?_⟩; have n0_ := Aside0.mk (below_step (by repeat (first | (with_reducible first | exact HB.out | apply below_alloc | apply pw_below_drewN | apply below_drew1) | exact HB.out)) hb); clear HB; have HB := n0_; clear n0_; (try clear hb); (try clear hb2); (try clear hk); (try clear hi)))
    go_ret
    exact ⟨by first | rfl | (simp [errW_none, errW_some] <;> rfl) | (simp [*, errW_none, errW_some] <;> rfl), by repeat (first | (with_reducible first | exact HB.out | apply below_alloc | apply pw_below_drewN | apply below_drew1) | exact HB.out)⟩

/-- THE ONE PURE STATEMENT of musterlaw01_KeysNames: yours. -/
def musterlaw01_KeysNames.Pure : Prop := musterlaw01_KeysNames.f  = some true
theorem musterlaw01_KeysNames.walk (P : musterlaw01_KeysNames.Pure)  (w : World)  :
    Calls Try.prog 4 #[] w fun e w' => e = .returned (.bool true) ∧ Below w.heap.size w w' := by
  have h := P  
  refine (musterlaw01_KeysNames.calls  true w h).mono ?_
  rintro e w' ⟨rfl, hd⟩
  exact ⟨rfl, hd⟩

end Go.Proofs.Ytjkljhcfbgcgoaa.K
end
section
namespace Go.Proofs.Ytjkljhcfbgcgoaa.K
open Go.RowKit Go.Proofs.YtjkljhcfbgcgoaaW.PrintWords Go.Proofs.YtjkljhcfbgcgoaaW.PrintLast Go.Proofs.YtjkljhcfbgcgoaaW.PrintMore
attribute [local go_sem] max2_int min2_int max_two min_two max_three min_three max_four min_four   -- for this text's walks alone
set_option linter.unusedVariables false
set_option linter.unusedSimpArgs false

/-! ### musterref01_Valid: function 36 -/
def musterref01_Valid.f (a0_0 : Int) (a0_1 : ByteArray) (a0_2 : Int) : Option (Bool) := if a0_0 = 1 then (some (a0_2 == 0)) else (if a0_0 = 2 then (some (a0_1.toList == ([] : List UInt8))) else (if a0_0 = 3 then (if a0_1.toList = ([] : List UInt8) then (if a0_2 = 0 then (some true) else (some (a0_2 == 1))) else (some false)) else (some false)))
set_option maxHeartbeats 8000000 in
set_option maxRecDepth 100000 in
theorem musterref01_Valid.calls (a0_0 : Int) (a0_1 : ByteArray) (a0_2 : Int) (r : Bool) (w : World) (h : musterref01_Valid.f a0_0 a0_1 a0_2 = some r) :
    Calls Try.prog 36 #[.agg #[.int .i64 a0_0, .string a0_1, .int .u64 a0_2]] w fun e w' => e = .returned (.bool r) ∧ Below w.heap.size w w' := by
  have hu36 := Try.underlying36
  have HB := Aside0.mk (Below.refl w.heap.size w)
  have H : (if a0_0 = 1 then (some (a0_2 == 0)) else (if a0_0 = 2 then (some (a0_1.toList == ([] : List UInt8))) else (if a0_0 = 3 then (if a0_1.toList = ([] : List UInt8) then (if a0_2 = 0 then (some true) else (some (a0_2 == 1))) else (some false)) else (some false)))) = some r := h
  clear h
  by_cases c2 : a0_0 = 1
  · rw [if_pos c2] at H
    have c2b0 : (a0_0 == 1) = true := beq_iff_eq.mpr c2
    have c2b1 : (a0_0 != 1) = false := bne_eq_false_iff_eq.mpr c2
    clear c2
    obtain rfl := Option.some.inj H
    go_enter Try.func36, Try.ntmps36
    go_wp2_with (first | ((with_reducible refine gate_dst (N := 1) rfl ?_); refine box_event ?hg (N := 1) ?hd (cs := #[.int .i64 a0_0, .string a0_1, .int .u64 a0_2]) (t := 36) ?hr ?_; (case hd => rfl); (case hg => rfl); (case hr => first | (go_simp; done) | (go_simp; rfl)); intro gb117 hg w3 hbox hb; have n0_ := Aside0.mk (below_step (by repeat (first | (with_reducible first | exact HB.out | apply below_alloc | apply pw_below_drewN | apply below_drew1) | exact HB.out)) hb); have n1_ := Aside0.mk (hbox); have n2_ := Aside0.mk ((by rw [hg]; exact (below_size (by repeat (first | (with_reducible first | exact HB.out | apply below_alloc | apply pw_below_drewN | apply below_drew1) | exact HB.out))) : w.heap.size ≤ gb117)); have n3_ := Aside0.mk ((by rw [hg]; exact (below_size (by repeat (first | (with_reducible first | exact HB.out | apply below_alloc | apply pw_below_drewN | apply below_drew1) | exact HB.out))) : w.heap.size ≤ gb117)); clear HB; have HB := n0_; have BK117 := n1_; have GW117 := n2_; have GE117 := n3_; clear n0_ n1_ n2_ n3_; clear hb hbox hg; have hcz4_0 : w3.cell? ⟨gb117, 0, none⟩ = some (.int .i64 a0_0) := (blk_cell BK117.out 0).trans rfl; have hcz4_1 : w3.cell? ⟨gb117, 1, none⟩ = some (.string a0_1) := (blk_cell BK117.out 1).trans rfl; have hcz4_2 : w3.cell? ⟨gb117, 2, none⟩ = some (.int .u64 a0_2) := (blk_cell BK117.out 2).trans rfl; have hfz4_0 := blk_frozen BK117.out 0; have hfz4_1 := blk_frozen BK117.out 1; have hfz4_2 := blk_frozen BK117.out 2))
    go_ret
    exact ⟨by first | rfl | (simp [errW_none, errW_some] <;> rfl) | (simp [*, errW_none, errW_some] <;> rfl), by repeat (first | (with_reducible first | exact HB.out | apply below_alloc | apply pw_below_drewN | apply below_drew1 | refine below_set ?_ GE117.out) | exact HB.out)⟩
  · rw [if_neg c2] at H
    have c2b0 : (a0_0 == 1) = false := beq_eq_false_iff_ne.mpr c2
    have c2b1 : (a0_0 != 1) = true := bne_iff_ne.mpr c2
    by_cases c5 : a0_0 = 2
    · rw [if_pos c5] at H
      have c5b0 : (a0_0 == 2) = true := beq_iff_eq.mpr c5
      have c5b1 : (a0_0 != 2) = false := bne_eq_false_iff_eq.mpr c5
      clear c5
      obtain rfl := Option.some.inj H
      go_enter Try.func36, Try.ntmps36
      go_wp2_with (first | ((with_reducible refine gate_dst (N := 1) rfl ?_); refine box_event ?hg (N := 1) ?hd (cs := #[.int .i64 a0_0, .string a0_1, .int .u64 a0_2]) (t := 36) ?hr ?_; (case hd => rfl); (case hg => rfl); (case hr => first | (go_simp; done) | (go_simp; rfl)); intro gb117 hg w6 hbox hb; have n0_ := Aside0.mk (below_step (by repeat (first | (with_reducible first | exact HB.out | apply below_alloc | apply pw_below_drewN | apply below_drew1) | exact HB.out)) hb); have n1_ := Aside0.mk (hbox); have n2_ := Aside0.mk ((by rw [hg]; exact (below_size (by repeat (first | (with_reducible first | exact HB.out | apply below_alloc | apply pw_below_drewN | apply below_drew1) | exact HB.out))) : w.heap.size ≤ gb117)); have n3_ := Aside0.mk ((by rw [hg]; exact (below_size (by repeat (first | (with_reducible first | exact HB.out | apply below_alloc | apply pw_below_drewN | apply below_drew1) | exact HB.out))) : w.heap.size ≤ gb117)); clear HB; have HB := n0_; have BK117 := n1_; have GW117 := n2_; have GE117 := n3_; clear n0_ n1_ n2_ n3_; clear hb hbox hg; have hcz7_0 : w6.cell? ⟨gb117, 0, none⟩ = some (.int .i64 a0_0) := (blk_cell BK117.out 0).trans rfl; have hcz7_1 : w6.cell? ⟨gb117, 1, none⟩ = some (.string a0_1) := (blk_cell BK117.out 1).trans rfl; have hcz7_2 : w6.cell? ⟨gb117, 2, none⟩ = some (.int .u64 a0_2) := (blk_cell BK117.out 2).trans rfl; have hfz7_0 := blk_frozen BK117.out 0; have hfz7_1 := blk_frozen BK117.out 1; have hfz7_2 := blk_frozen BK117.out 2))
      go_ret
      exact ⟨by first | rfl | (simp [errW_none, errW_some] <;> rfl) | (simp [*, errW_none, errW_some] <;> rfl), by repeat (first | (with_reducible first | exact HB.out | apply below_alloc | apply pw_below_drewN | apply below_drew1 | refine below_set ?_ GE117.out) | exact HB.out)⟩
    · rw [if_neg c5] at H
      have c5b0 : (a0_0 == 2) = false := beq_eq_false_iff_ne.mpr c5
      have c5b1 : (a0_0 != 2) = true := bne_iff_ne.mpr c5
      by_cases c8 : a0_0 = 3
      · rw [if_pos c8] at H
        have c8b0 : (a0_0 == 3) = true := beq_iff_eq.mpr c8
        have c8b1 : (a0_0 != 3) = false := bne_eq_false_iff_eq.mpr c8
        clear c8
        by_cases c9 : a0_1.toList = ([] : List UInt8)
        · rw [if_pos c9] at H
          have c9b0 : (a0_1.toList == ([] : List UInt8)) = true := beq_iff_eq.mpr c9
          have c9b1 : (a0_1.toList != ([] : List UInt8)) = false := bne_eq_false_iff_eq.mpr c9
          clear c9
          by_cases c10 : a0_2 = 0
          · rw [if_pos c10] at H
            have c10b0 : (a0_2 == 0) = true := beq_iff_eq.mpr c10
            have c10b1 : (a0_2 != 0) = false := bne_eq_false_iff_eq.mpr c10
            clear c10
            obtain rfl := Option.some.inj H
            go_enter Try.func36, Try.ntmps36
            go_wp2_with (first | ((with_reducible refine gate_dst (N := 1) rfl ?_); refine box_event ?hg (N := 1) ?hd (cs := #[.int .i64 a0_0, .string a0_1, .int .u64 a0_2]) (t := 36) ?hr ?_; (case hd => rfl); (case hg => rfl); (case hr => first | (go_simp; done) | (go_simp; rfl)); intro gb117 hg w11 hbox hb; have n0_ := Aside0.mk (below_step (by repeat (first | (with_reducible first | exact HB.out | apply below_alloc | apply pw_below_drewN | apply below_drew1) | exact HB.out)) hb); have n1_ := Aside0.mk (hbox); have n2_ := Aside0.mk ((by rw [hg]; exact (below_size (by repeat (first | (with_reducible first | exact HB.out | apply below_alloc | apply pw_below_drewN | apply below_drew1) | exact HB.out))) : w.heap.size ≤ gb117)); have n3_ := Aside0.mk ((by rw [hg]; exact (below_size (by repeat (first | (with_reducible first | exact HB.out | apply below_alloc | apply pw_below_drewN | apply below_drew1) | exact HB.out))) : w.heap.size ≤ gb117)); clear HB; have HB := n0_; have BK117 := n1_; have GW117 := n2_; have GE117 := n3_; clear n0_ n1_ n2_ n3_; clear hb hbox hg; have hcz12_0 : w11.cell? ⟨gb117, 0, none⟩ = some (.int .i64 a0_0) := (blk_cell BK117.out 0).trans rfl; have hcz12_1 : w11.cell? ⟨gb117, 1, none⟩ = some (.string a0_1) := (blk_cell BK117.out 1).trans rfl; have hcz12_2 : w11.cell? ⟨gb117, 2, none⟩ = some (.int .u64 a0_2) := (blk_cell BK117.out 2).trans rfl; have hfz12_0 := blk_frozen BK117.out 0; have hfz12_1 := blk_frozen BK117.out 1; have hfz12_2 := blk_frozen BK117.out 2))
            go_ret
            exact ⟨by first | rfl | (simp [errW_none, errW_some] <;> rfl) | (simp [*, errW_none, errW_some] <;> rfl), by repeat (first | (with_reducible first | exact HB.out | apply below_alloc | apply pw_below_drewN | apply below_drew1 | refine below_set ?_ GE117.out) | exact HB.out)⟩
          · rw [if_neg c10] at H
            have c10b0 : (a0_2 == 0) = false := beq_eq_false_iff_ne.mpr c10
            have c10b1 : (a0_2 != 0) = true := bne_iff_ne.mpr c10
            obtain rfl := Option.some.inj H
            go_enter Try.func36, Try.ntmps36
            go_wp2_with (first | ((with_reducible refine gate_dst (N := 1) rfl ?_); refine box_event ?hg (N := 1) ?hd (cs := #[.int .i64 a0_0, .string a0_1, .int .u64 a0_2]) (t := 36) ?hr ?_; (case hd => rfl); (case hg => rfl); (case hr => first | (go_simp; done) | (go_simp; rfl)); intro gb117 hg w13 hbox hb; have n0_ := Aside0.mk (below_step (by repeat (first | (with_reducible first | exact HB.out | apply below_alloc | apply pw_below_drewN | apply below_drew1) | exact HB.out)) hb); have n1_ := Aside0.mk (hbox); have n2_ := Aside0.mk ((by rw [hg]; exact (below_size (by repeat (first | (with_reducible first | exact HB.out | apply below_alloc | apply pw_below_drewN | apply below_drew1) | exact HB.out))) : w.heap.size ≤ gb117)); have n3_ := Aside0.mk ((by rw [hg]; exact (below_size (by repeat (first | (with_reducible first | exact HB.out | apply below_alloc | apply pw_below_drewN | apply below_drew1) | exact HB.out))) : w.heap.size ≤ gb117)); clear HB; have HB := n0_; have BK117 := n1_; have GW117 := n2_; have GE117 := n3_; clear n0_ n1_ n2_ n3_; clear hb hbox hg; have hcz14_0 : w13.cell? ⟨gb117, 0, none⟩ = some (.int .i64 a0_0) := (blk_cell BK117.out 0).trans rfl; have hcz14_1 : w13.cell? ⟨gb117, 1, none⟩ = some (.string a0_1) := (blk_cell BK117.out 1).trans rfl; have hcz14_2 : w13.cell? ⟨gb117, 2, none⟩ = some (.int .u64 a0_2) := (blk_cell BK117.out 2).trans rfl; have hfz14_0 := blk_frozen BK117.out 0; have hfz14_1 := blk_frozen BK117.out 1; have hfz14_2 := blk_frozen BK117.out 2))
            go_ret
            exact ⟨by first | rfl | (simp [errW_none, errW_some] <;> rfl) | (simp [*, errW_none, errW_some] <;> rfl), by repeat (first | (with_reducible first | exact HB.out | apply below_alloc | apply pw_below_drewN | apply below_drew1 | refine below_set ?_ GE117.out) | exact HB.out)⟩
        · rw [if_neg c9] at H
          have c9b0 : (a0_1.toList == ([] : List UInt8)) = false := beq_eq_false_iff_ne.mpr c9
          have c9b1 : (a0_1.toList != ([] : List UInt8)) = true := bne_iff_ne.mpr c9
          obtain rfl := Option.some.inj H
          go_enter Try.func36, Try.ntmps36
          go_wp2_with (first | ((with_reducible refine gate_dst (N := 1) rfl ?_); refine box_event ?hg (N := 1) ?hd (cs := #[.int .i64 a0_0, .string a0_1, .int .u64 a0_2]) (t := 36) ?hr ?_; (case hd => rfl); (case hg => rfl); (case hr => first | (go_simp; done) | (go_simp; rfl)); intro gb117 hg w15 hbox hb; have n0_ := Aside0.mk (below_step (by repeat (first | (with_reducible first | exact HB.out | apply below_alloc | apply pw_below_drewN | apply below_drew1) | exact HB.out)) hb); have n1_ := Aside0.mk (hbox); have n2_ := Aside0.mk ((by rw [hg]; exact (below_size (by repeat (first | (with_reducible first | exact HB.out | apply below_alloc | apply pw_below_drewN | apply below_drew1) | exact HB.out))) : w.heap.size ≤ gb117)); have n3_ := Aside0.mk ((by rw [hg]; exact (below_size (by repeat (first | (with_reducible first | exact HB.out | apply below_alloc | apply pw_below_drewN | apply below_drew1) | exact HB.out))) : w.heap.size ≤ gb117)); clear HB; have HB := n0_; have BK117 := n1_; have GW117 := n2_; have GE117 := n3_; clear n0_ n1_ n2_ n3_; clear hb hbox hg; have hcz16_0 : w15.cell? ⟨gb117, 0, none⟩ = some (.int .i64 a0_0) := (blk_cell BK117.out 0).trans rfl; have hcz16_1 : w15.cell? ⟨gb117, 1, none⟩ = some (.string a0_1) := (blk_cell BK117.out 1).trans rfl; have hcz16_2 : w15.cell? ⟨gb117, 2, none⟩ = some (.int .u64 a0_2) := (blk_cell BK117.out 2).trans rfl; have hfz16_0 := blk_frozen BK117.out 0; have hfz16_1 := blk_frozen BK117.out 1; have hfz16_2 := blk_frozen BK117.out 2))
          go_ret
          exact ⟨by first | rfl | (simp [errW_none, errW_some] <;> rfl) | (simp [*, errW_none, errW_some] <;> rfl), by repeat (first | (with_reducible first | exact HB.out | apply below_alloc | apply pw_below_drewN | apply below_drew1 | refine below_set ?_ GE117.out) | exact HB.out)⟩
      · rw [if_neg c8] at H
        have c8b0 : (a0_0 == 3) = false := beq_eq_false_iff_ne.mpr c8
        have c8b1 : (a0_0 != 3) = true := bne_iff_ne.mpr c8
        obtain rfl := Option.some.inj H
        go_enter Try.func36, Try.ntmps36
        go_wp2_with (first | ((with_reducible refine gate_dst (N := 1) rfl ?_); refine box_event ?hg (N := 1) ?hd (cs := #[.int .i64 a0_0, .string a0_1, .int .u64 a0_2]) (t := 36) ?hr ?_; (case hd => rfl); (case hg => rfl); (case hr => first | (go_simp; done) | (go_simp; rfl)); intro gb117 hg w17 hbox hb; have n0_ := Aside0.mk (below_step (by repeat (first | (with_reducible first | exact HB.out | apply below_alloc | apply pw_below_drewN | apply below_drew1) | exact HB.out)) hb); have n1_ := Aside0.mk (hbox); have n2_ := Aside0.mk ((by rw [hg]; exact (below_size (by repeat (first | (with_reducible first | exact HB.out | apply below_alloc | apply pw_below_drewN | apply below_drew1) | exact HB.out))) : w.heap.size ≤ gb117)); have n3_ := Aside0.mk ((by rw [hg]; exact (below_size (by repeat (first | (with_reducible first | exact HB.out | apply below_alloc | apply pw_below_drewN | apply below_drew1) | exact HB.out))) : w.heap.size ≤ gb117)); clear HB; have HB := n0_; have BK117 := n1_; have GW117 := n2_; have GE117 := n3_; clear n0_ n1_ n2_ n3_; clear hb hbox hg; have hcz18_0 : w17.cell? ⟨gb117, 0, none⟩ = some (.int .i64 a0_0) := (blk_cell BK117.out 0).trans rfl; have hcz18_1 : w17.cell? ⟨gb117, 1, none⟩ = some (.string a0_1) := (blk_cell BK117.out 1).trans rfl; have hcz18_2 : w17.cell? ⟨gb117, 2, none⟩ = some (.int .u64 a0_2) := (blk_cell BK117.out 2).trans rfl; have hfz18_0 := blk_frozen BK117.out 0; have hfz18_1 := blk_frozen BK117.out 1; have hfz18_2 := blk_frozen BK117.out 2))
        go_ret
        exact ⟨by first | rfl | (simp [errW_none, errW_some] <;> rfl) | (simp [*, errW_none, errW_some] <;> rfl), by repeat (first | (with_reducible first | exact HB.out | apply below_alloc | apply pw_below_drewN | apply below_drew1 | refine below_set ?_ GE117.out) | exact HB.out)⟩

end Go.Proofs.Ytjkljhcfbgcgoaa.K
end
