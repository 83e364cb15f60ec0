-- Written by a program of this session (wip/tools/printfam.py) out of the translation; hand-proved contracts set in. Lean checks it.
import Derived.Test.YtjkljhcfbgcgoaaK0
import Derived.Test.YtjkljhcfbgcgoaaK6
namespace Go.Proofs.Ytjkljhcfbgcgoaa.K
open Go.RowKit Go.Proofs.YtjkljhcfbgcgoaaW.PrintWords Go.Proofs.YtjkljhcfbgcgoaaW.PrintLast Go.Proofs.YtjkljhcfbgcgoaaW.PrintMore
attribute [local go_sem] max2_int min2_int max_two min_two max_three min_three max_four min_four   -- for this text's walks alone
set_option linter.unusedVariables false
set_option linter.unusedSimpArgs false

/-! ### keys_whole: function 28 -/
-- HAND
def kvalid (p : S36) : Bool := keys_valid.f p.f0 p.f1 p.f2 == some true
def wholeI (l : List S36) (a : Bool) (i : Nat) : List Int := (List.range i).flatMap fun (j : Nat) => Hw.kpc (rd_T36 l j).f0 (rd_T36 l j).f1 (rd_T36 l j).f2 (a && ((j : Int) == (l.length : Int) - 1))
def keys_whole.f (l0 : List S36) (a1 : Bool) : Option (ByteArray × Int) :=
  if l0.all kvalid then (if (wholeI l0 a1 l0.length).length + 2 ≤ 140737488355328 then (if (wholeI l0 a1 l0.length).length > 1024 then some (⟨#[]⟩, 11) else some (strOfNums (wholeI l0 a1 l0.length), 0)) else none) else some (⟨#[]⟩, 10)
theorem wholeI_succ (l : List S36) (a : Bool) (i : Nat) : wholeI l a (i + 1) = wholeI l a i ++ Hw.kpc (rd_T36 l i).f0 (rd_T36 l i).f1 (rd_T36 l i).f2 (a && ((i : Int) == (l.length : Int) - 1)) := by simp [wholeI, List.range_succ]
theorem wholeI_mono (l : List S36) (a : Bool) (i n : Nat) (h : i ≤ n) : (wholeI l a i).length ≤ (wholeI l a n).length := by
  induction n with
  | zero => have : i = 0 := by omega
            subst this; exact Nat.le_refl _
  | succ n ih =>
    rcases Nat.lt_or_ge i (n + 1) with h' | h'
    · rw [wholeI_succ, List.length_append]; have := ih (by omega); omega
    · have : i = n + 1 := by omega
      subst this; exact Nat.le_refl _
theorem wholeI_range (l : List S36) (a : Bool) (i : Nat) : ∀ x ∈ wholeI l a i, 0 ≤ x ∧ x ≤ 255 := by
  intro x hx
  simp only [wholeI, List.mem_flatMap] at hx
  obtain ⟨j, _, hx⟩ := hx
  exact Hw.kpc_range _ _ _ _ x hx
theorem kvalid_kind (p : S36) (h : kvalid p = true) : p.f0 = 1 ∨ p.f0 = 2 ∨ p.f0 = 3 := by
  unfold kvalid keys_valid.f at h
  split at h
  · simp_all
  · split at h
    · simp_all
    · split at h
      · simp_all
      · simp at h
theorem valid_some (p : S36) : ∃ r, keys_valid.f p.f0 p.f1 p.f2 = some r ∧ kvalid p = r := by
  unfold kvalid keys_valid.f
  split
  · exact ⟨_, rfl, by simp⟩
  · split
    · split
      · exact ⟨_, rfl, by simp⟩
      · exact ⟨_, rfl, by simp⟩
    · split
      · exact ⟨_, rfl, by simp⟩
      · exact ⟨_, rfl, by simp⟩
theorem all_kvalid (l : List S36) : l.all kvalid = true ↔ ∀ j : Nat, j < l.length → kvalid (rd_T36 l j) = true := by
  rw [List.all_eq_true]
  constructor
  · intro h j hj
    refine h _ ?_
    simp only [rd_T36, Int.toNat_natCast, List.getD_eq_getElem?_getD, List.getElem?_eq_getElem hj, Option.getD_some]
    exact List.getElem_mem hj
  · intro h x hx
    obtain ⟨j, hj, rfl⟩ := List.getElem_of_mem hx
    have := h j hj
    simpa only [rd_T36, Int.toNat_natCast, List.getD_eq_getElem?_getD, List.getElem?_eq_getElem hj, Option.getD_some] using this

set_option maxHeartbeats 8000000 in
set_option maxRecDepth 100000 in
theorem keys_whole.calls (A0 : Option Addr) (c0 : Nat) (l0 : List S36) (a1 : Bool) (r1 : ByteArray) (r2 : Int) (w : World) (hr0 : Kd.C k36 w A0 l0.length l0) (hc0 : l0.length ≤ c0) (h : keys_whole.f l0 a1 = some (r1, r2)) :
    Calls Try.prog 28 #[.slice A0 l0.length c0, .bool a1] w fun e w' => e = .returned (.tuple #[.string r1, .int .i64 r2]) ∧ Below w.heap.size w w' := by
  have hu36 := Try.underlying36
  have HR0 := Aside0.mk hr0
  have HC0 := Aside0.mk hc0
  have HF := Aside0.mk h
  have hlm := Kd.C_max hr0
  clear hr0 hc0 h
  have HB := Aside0.mk (Below.refl w.heap.size w)
  go_enter Try.func28, Try.ntmps28
  go_wp2
  go_loopg [13] l0.length (fun kq v13 w' => ∃ k : Nat, v13 = .int .i64 k ∧ Aside0 (k + kq = l0.length) ∧ Aside0 (∀ j : Nat, j < k → kvalid (rd_T36 l0 j) = true) ∧ Aside0 (Below w.heap.size w w'))
  case atStart => exact ⟨0, rfl, ⟨by omega⟩, ⟨fun j hj => absurd hj (by omega)⟩, HB⟩
  case round =>
    obtain ⟨k, rfl, HJ, HV, HB⟩ := hrel
    by_cases hk : k < l0.length
    · obtain ⟨ad, e109, hx0, hx1, hx2⟩ := at_T36 HR0.out k (by omega) (by omega)
      cases e109
      replace hx0 := (HB.out.cell (World.block_lt_of_cell? w _ hx0)).trans hx0
      replace hx1 := (HB.out.cell (World.block_lt_of_cell? w _ hx1)).trans hx1
      replace hx2 := (HB.out.cell (World.block_lt_of_cell? w _ hx2)).trans hx2
      rw [Int.toNat_natCast] at hx0 hx1 hx2
      obtain ⟨r, hr, hv⟩ := valid_some (rd_T36 l0 k)
      have HR := Aside0.mk hr
      have HVK := Aside0.mk hv
      clear hr hv
      generalize (rd_T36 l0 k).f0 = p0 at *
      generalize (rd_T36 l0 k).f1 = p1 at *
      generalize (rd_T36 l0 k).f2 = p2 at *
      cases r with
      | false =>
        have hno : l0.all kvalid = false := by
          rw [Bool.eq_false_iff]
          intro h
          have := (all_kvalid l0).1 h k hk
          rw [HVK.out] at this
          exact absurd this (by decide)
        have HF' := HF.out
        unfold keys_whole.f at HF'
        rw [hno] at HF'
        simp only [Bool.false_eq_true, if_false, Option.some.injEq, Prod.mk.injEq] at HF'
        obtain ⟨rfl, rfl⟩ := HF'
        clear hno HF
        go_wp2_with fail
        refine (keys_valid.calls _ _ _ _ _ HR.out).mono ?_
        rintro e w2 ⟨rfl, hb⟩
        have HB2 := Aside0.mk (below_step (below_alloc HB.out _) hb)
        clear hb HB
        go_wp2_with fail
        go_ret2
        exact ⟨rfl, HB2.out⟩
      | true =>
        go_wp2_with fail
        refine (keys_valid.calls _ _ _ _ _ HR.out).mono ?_
        rintro e w2 ⟨rfl, hb⟩
        have HB2 := Aside0.mk (below_step (below_alloc HB.out _) hb)
        clear hb HB hx0 hx1 hx2
        go_wp2_with fail
        go_roundg (gk - 1)
        case measure => have := HJ.out; omega
        case rel =>
          refine ⟨k + 1, by simp, ⟨by have := HJ.out; omega⟩, ⟨fun j hj => ?_⟩, HB2⟩
          rcases Nat.lt_or_ge j k with h' | h'
          · exact HV.out j h'
          · have : j = k := by omega
            subst this; exact HVK.out
    · have hkk : k = l0.length := by have := HJ.out; omega
      subst hkk
      have hall : l0.all kvalid = true := (all_kvalid l0).2 HV.out
      have HF' := HF.out
      unfold keys_whole.f at HF'
      rw [hall] at HF'
      simp only [if_true] at HF'
      have hbd : (wholeI l0 a1 l0.length).length + 2 ≤ 140737488355328 := by
        rcases Nat.lt_or_ge 140737488355328 ((wholeI l0 a1 l0.length).length + 2) with h' | h'
        · rw [if_neg (by omega)] at HF'; simp at HF'
        · exact h'
      rw [if_pos hbd] at HF'
      have HBD0 := Aside0.mk hbd
      clear hbd
      have HF2 := Aside0.mk HF'
      clear HF' hall HF hk
      go_wp2_with fail
      generalize hw1 : wr.alloc (.cells #[.pointer none, .slice none 0 0] 62) = w1
      have HBD : Aside0 (Bd.Bld wr.heap.size wr.heap.size [] w1) := ⟨by rw [← hw1]; exact Bd.Bld.fresh wr⟩
      have HB1 : Aside0 (Below w.heap.size w w1) := ⟨by rw [← hw1]; exact below_alloc HB.out _⟩
      have HSZ := Aside0.mk HB.out.size
      clear hw1
      generalize wr.heap.size = b0 at *
      go_loopg [23] l0.length (fun kq v23 w' => ∃ k : Nat, v23 = .int .i64 k ∧ Aside0 (k + kq = l0.length) ∧ Aside0 (Bd.Bld b0 b0 (wholeI l0 a1 k) w') ∧ Aside0 (Bd.Kp b0 b0 w1 w'))
      case atStart => exact ⟨0, rfl, ⟨by omega⟩, HBD, ⟨Bd.Kp.refl _ _ _⟩⟩
      case round =>
        obtain ⟨k, rfl, HJ, HBL, HK⟩ := hrel
        rename_i gk2 wr2 _ _ _
        by_cases hk : k < l0.length
        · obtain ⟨ad, e109, hx0, hx1, hx2⟩ := at_T36 HR0.out k (by omega) (by omega)
          cases e109
          have HB2 := Aside0.mk (HB1.out.trans (HK.out.bel.mono HSZ.out))
          replace hx0 := (HB2.out.cell (World.block_lt_of_cell? w _ hx0)).trans hx0
          replace hx1 := (HB2.out.cell (World.block_lt_of_cell? w _ hx1)).trans hx1
          replace hx2 := (HB2.out.cell (World.block_lt_of_cell? w _ hx2)).trans hx2
          rw [Int.toNat_natCast] at hx0 hx1 hx2
          have HVK := Aside0.mk (kvalid_kind _ (HV.out k hk))
          have HWS := Aside0.mk (wholeI_succ l0 a1 k)
          generalize (rd_T36 l0 k).f0 = p0 at *
          generalize (rd_T36 l0 k).f1 = p1 at *
          generalize (rd_T36 l0 k).f2 = p2 at *
          obtain ⟨q, hq⟩ : ∃ q : Bool, ((k : Int) == (l0.length : Int) - 1) = q := ⟨_, rfl⟩
          rw [hq] at HWS
          cases a1 with
          | true =>
            go_wp2_with fail
            refine (Hw.write_any b0 b0 _ p0 p1 p2 q _ (HBL.out.alloc _) HVK.out (by have h1 := wholeI_mono l0 true (k + 1) l0.length hk; rw [HWS.out, List.length_append] at h1; simp only [Bool.true_and] at h1; have := HBD0.out; omega)).mono ?_
            rintro e w3 ⟨rfl, h3, k3⟩
            have HBL3 : Aside0 (Bd.Bld b0 b0 (wholeI l0 true (k + 1)) w3) := ⟨by rw [HWS.out]; exact h3⟩
            have HK3 := Aside0.mk ((HK.out.alloc (by have := HBL.out.lt; omega) _).trans k3)
            clear h3 k3 HBL HK hx0 hx1 hx2 HB2
            go_wp2_with fail
            go_roundg (gk - 1)
            case measure => have := HJ.out; omega
            case rel => exact ⟨k + 1, by simp, ⟨by have := HJ.out; omega⟩, HBL3, HK3⟩
          | false =>
            go_wp2_with fail
            refine (Hw.write_any b0 b0 _ p0 p1 p2 false _ (HBL.out.alloc _) HVK.out (by have h1 := wholeI_mono l0 false (k + 1) l0.length hk; rw [HWS.out, List.length_append] at h1; simp only [Bool.false_and] at h1; have := HBD0.out; omega)).mono ?_
            rintro e w3 ⟨rfl, h3, k3⟩
            have HBL3 : Aside0 (Bd.Bld b0 b0 (wholeI l0 false (k + 1)) w3) := ⟨by rw [HWS.out]; exact h3⟩
            have HK3 := Aside0.mk ((HK.out.alloc (by have := HBL.out.lt; omega) _).trans k3)
            clear h3 k3 HBL HK hx0 hx1 hx2 HB2
            go_wp2_with fail
            go_roundg (gk - 1)
            case measure => have := HJ.out; omega
            case rel => exact ⟨k + 1, by simp, ⟨by have := HJ.out; omega⟩, HBL3, HK3⟩
        · have hkk : k = l0.length := by have := HJ.out; omega
          subst hkk
          clear hk
          have hrg := Aside0.mk (wholeI_range l0 a1 l0.length)
          have HBF := Aside0.mk (HB1.out.trans (HK.out.bel.mono HSZ.out))
          by_cases hbig : 1024 < (wholeI l0 a1 l0.length).length
          · have HF' := HF2.out
            rw [if_pos hbig] at HF'
            simp only [Option.some.injEq, Prod.mk.injEq] at HF'
            obtain ⟨rfl, rfl⟩ := HF'
            clear HF2
            have hbb : decide (1024 < ((wholeI l0 a1 l0.length).length : Int)) = true := by simp; omega
            generalize hbs : wholeI l0 a1 l0.length = bs at *
            have HBS := Aside0.mk hbs
            clear hbs
            go_wp2_with fail
            refine (Bd.blen b0 b0 _ _ HBL.out).mono ?_
            rintro e w3 ⟨rfl, rfl⟩
            go_wp2_with fail
            go_ret2
            exact ⟨rfl, HBF.out⟩
          · have HF' := HF2.out
            rw [if_neg hbig] at HF'
            simp only [Option.some.injEq, Prod.mk.injEq] at HF'
            obtain ⟨rfl, rfl⟩ := HF'
            clear HF2
            have hbb : decide (1024 < ((wholeI l0 a1 l0.length).length : Int)) = false := by simp; omega
            generalize hbs : wholeI l0 a1 l0.length = bs at *
            have HBS := Aside0.mk hbs
            clear hbs
            go_wp2_with fail
            refine (Bd.blen b0 b0 _ _ HBL.out).mono ?_
            rintro e w3 ⟨rfl, rfl⟩
            go_wp2_with fail
            refine (Bd.bstring b0 b0 _ _ HBL.out hrg.out).mono ?_
            rintro e w4 ⟨rfl, h4, k4⟩
            have HBG := Aside0.mk (HBF.out.trans (k4.bel.mono HSZ.out))
            clear h4 k4
            go_wp2_with fail
            go_ret2
            exact ⟨by rw [HBS.out]; rfl, HBG.out⟩


end Go.Proofs.Ytjkljhcfbgcgoaa.K
