/- joined: V9 -/
import Derived.Test.YtjhgknagmiekeaaJD12
set_option linter.unusedVariables false
set_option linter.unusedSimpArgs false
namespace Go.Proofs.Ytjhgknagmiekeaa.V
open Go.Proofs.Ytjhgknagmiekeaa.VOU (below_drewA)
open Go.RowKit Go.Lib Go.Proofs Go.Shelf
open Go.Proofs.Ytjhgknagmiekeaa.T Go.Proofs.Ytjhgknagmiekeaa.N Go.Proofs.Ytjhgknagmiekeaa.K
open Go.Proofs.YtjhgknagmiekeaaW.PrintWords hiding blk_cell
attribute [local go_sem] Oper.semAt_some
def twoE : List S35 := [⟨⟨#[98]⟩, 2⟩, ⟨⟨#[97]⟩, 1⟩]
def twoX : List (ByteArray × Int) := [(⟨#[97]⟩, 1), (⟨#[98]⟩, 2)]
theorem two_at (w : World) (t : TypeId) : EntAt (w.alloc (.cells #[.string ⟨#[98]⟩, .int .i64 2, .string ⟨#[97]⟩, .int .i64 1] t)) (some ⟨w.heap.size, 0, none⟩) twoE := by
  have h := World.alloc_heap_new w (.cells #[.string ⟨#[98]⟩, .int .i64 2, .string ⟨#[97]⟩, .int .i64 1] t)
  refine ⟨rfl, by decide, fun _ => ⟨_, rfl, fun j p hp => ?_⟩⟩
  match j, hp with
  | 0, hp =>
    cases hp
    refine ⟨_, rfl, k35_mk _ _, fun i u hu => ?_⟩
    match i, hu with
    | 0, hu => cases hu; show World.cell? _ ⟨_, 0, none⟩ = _; rw [blk_cell h]; rfl
    | 1, hu => cases hu; show World.cell? _ ⟨_, 1, none⟩ = _; rw [blk_cell h]; rfl
    | i + 2, hu => cases hu
  | 1, hp =>
    cases hp
    refine ⟨_, rfl, k35_mk _ _, fun i u hu => ?_⟩
    match i, hu with
    | 0, hu => cases hu; show World.cell? _ ⟨_, 2, none⟩ = _; rw [blk_cell h]; rfl
    | 1, hu => cases hu; show World.cell? _ ⟨_, 3, none⟩ = _; rw [blk_cell h]; rfl
    | i + 2, hu => cases hu
  | j + 2, hp => cases hp
theorem two_all {root : Nd} (hf : Fine root) (hi : IntVals root) (hv : ∀ r, valT root r = lastE twoE r) : (All root).map ey = twoX.map ex := by
  refine sorted_ext (lt := fun a b : Kv => a.1 < b.1) (fun x => blt_irrefl _) (fun x y z => blt_trans) _ _ ?_ ?_ (fun x => ?_)
  · rw [List.pairwise_map]
    exact all_rise hf.toGood
  · have e : twoX.map ex = [([97], 1), ([98], 2)] := rfl
    rw [e]
    simp
    decide
  · obtain ⟨q, x⟩ := x
    rw [mem_ey hf.toGood hi, hv, show twoX.map ex = [([97], 1), ([98], 2)] from rfl]
    have e : lastE twoE q = if q = [97] then some (.int .i64 1) else if q = [98] then some (.int .i64 2) else none := rfl
    rw [e]
    simp only [List.mem_cons, List.not_mem_nil, or_false, Prod.mk.injEq]
    by_cases h1 : q = [97]
    · subst h1
      rw [if_pos rfl]
      constructor
      · intro h
        injection h with h
        injection h with _ h
        exact .inl ⟨rfl, h.symm⟩
      · rintro (⟨-, rfl⟩ | ⟨h, -⟩)
        · rfl
        · exact absurd h (by decide)
    · rw [if_neg h1]
      by_cases h2 : q = [98]
      · subst h2
        rw [if_pos rfl]
        constructor
        · intro h
          injection h with h
          injection h with _ h
          exact .inr ⟨rfl, h.symm⟩
        · rintro (⟨h, -⟩ | ⟨-, rfl⟩)
          · exact absurd h (by decide)
          · rfl
      · rw [if_neg h2]
        constructor
        · intro h; cases h
        · rintro (⟨h, -⟩ | ⟨h, -⟩)
          · exact absurd h h1
          · exact absurd h h2
def sumW (l : List (ByteArray × Int)) : Int := l.foldl (fun s x => wrap64 (wrap64 (10 * s) + x.2)) 0
theorem sumW_snoc (l : List (ByteArray × Int)) (x : ByteArray × Int) : sumW (l ++ [x]) = wrap64 (wrap64 (10 * sumW l) + x.2) := by unfold sumW; rw [List.foldl_append]; rfl
theorem funcNil (fn : Fn) (a c : Array Value) (w : World) : Sem.run Try.prog (binOp BinOp.eql 32 (.func fn a c) .nilFunc) w = .ok (.bool false) w := by kernel_rfl
end Go.Proofs.Ytjhgknagmiekeaa.V
