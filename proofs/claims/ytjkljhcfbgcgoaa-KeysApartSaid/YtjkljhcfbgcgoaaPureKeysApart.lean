/- KeysApart: what one Decode gave does not change under what is done to another's: true for every bytes. -/
import Derived.Test.YtjkljhcfbgcgoaaM12
import Derived.Test.YtjkljhcfbgcgoaaQ11
set_option linter.unusedVariables false
set_option linter.unusedSimpArgs false
namespace Go.Proofs.Ytjkljhcfbgcgoaa.Pure
open Go.RowKit Go.Proofs.Ytjkljhcfbgcgoaa.K Go.Proofs.YtjkljhcfbgcgoaaW.PrintWords Go.Proofs.YtjkljhcfbgcgoaaW.PrintLast Go.Proofs.Ytjkljhcfbgcgoaa.Q
attribute [local irreducible] musterlaw01_KeysApart.l0 musterlaw01_KeysApart.l1 musterlaw01_KeysApart.j0

theorem apart_end (s : ByteArray) (r : List S36 × Int) (hl : r.1.length ≤ 1024) (h1 : Ev (fun k => keys_Decode.f k s) r) (L : Int) :
    ∀ (d j : Nat) (x8 : List S36), j ≤ 16 → 16 - j = d → x8.length ≤ 4000 + j → Ev (fun k => musterlaw01_KeysApart.l1 k s r.1 r.2 x8 r.1 (j : Int)) true := by
  intro d
  induction d with
  | zero =>
    intro j x8 hj hd hx
    have hj2 : j = 16 := by omega
    subst hj2
    refine Ev.step (f := fun k => (musterref01_SameParts.f k r.1 r.1).bind fun t388 => (if t388 = true then ((keys_Decode.f k s).bind fun bt389 => ((musterref01_SameParts.f k bt389.1 r.1).bind fun t393 => (if t393 = true then (some (bt389.2 == r.2)) else (some false)))) else (some false))) (fun k => ?_) ?_
    · simp only [musterlaw01_KeysApart.l1]
      rw [if_neg (by omega)]
    · refine Ev.bind (same_ev r.1 r.1 (by omega)) ?_
      simp only [same_self, ↓reduceIte]
      refine Ev.bind h1 ?_
      refine Ev.bind (same_ev r.1 r.1 (by omega)) ?_
      simp only [same_self, ↓reduceIte, beq_self_eq_true]
      exact Ev.now _
  | succ d ih =>
    intro j x8 hj hd hx
    refine Ev.step (fun k => ?_) (ih (j + 1) (x8 ++ [(⟨8, (⟨#[]⟩ : ByteArray), IntKind.u64.wrap (j : Int)⟩ : S36)]) (by omega) (by omega) (by simp; omega))
    simp only [musterlaw01_KeysApart.l1]
    rw [if_pos (by omega), if_pos (by omega), Q.wrap_small _ (by omega) (by omega)]
    rfl
theorem apart_set (s : ByteArray) (r : List S36 × Int) (hl : r.1.length ≤ 1024) (h1 : Ev (fun k => keys_Decode.f k s) r) :
    ∀ (d i : Nat) (x8 : List S36), i ≤ r.1.length → r.1.length - i = d → x8.length = r.1.length → Ev (fun k => musterlaw01_KeysApart.l0 k s r.1 r.2 x8 r.1 (r.1.length : Int) (i : Int)) true := by
  intro d
  induction d with
  | zero =>
    intro i x8 hi hd hx
    refine Ev.step (fun k => ?_) (apart_end s r hl h1 0 16 0 x8 (by omega) (by omega) (by omega))
    simp only [musterlaw01_KeysApart.l0]
    rw [if_neg (by omega)]
    rfl
  | succ d ih =>
    intro i x8 hi hd hx
    refine Ev.step (fun k => ?_) (ih (i + 1) (x8.set i ⟨9, ⟨#[]⟩, 1⟩) (by omega) (by omega) (by simp [hx]))
    simp only [musterlaw01_KeysApart.l0]
    rw [if_pos (by omega), if_pos (by omega), if_pos (by omega), Q.wrap_small _ (by omega) (by omega)]
    rfl
theorem apart_head : keys_Encode.f [(⟨1, (⟨#[113]⟩ : ByteArray), 0⟩ : S36), (⟨3, (⟨#[]⟩ : ByteArray), 1⟩ : S36)] = some (⟨#[1, 113, 0, 1, 3, 1]⟩, 0) := by
  have h := encode_f [(⟨1, (⟨#[113]⟩ : ByteArray), 0⟩ : S36), (⟨3, (⟨#[]⟩ : ByteArray), 1⟩ : S36)] (fun _ => by decide)
  rw [h]
  decide +kernel
theorem KeysApart : musterlaw01_KeysApart.Pure := by
  intro s _
  obtain ⟨r, hl, h1, h2⟩ := both_ev s
  refine Ev.rounds (g := fun k => musterlaw01_KeysApart.f k s) ?_
  unfold musterlaw01_KeysApart.f
  have e1 : (([(⟨1, (⟨#[113]⟩ : ByteArray), 0⟩ : S36), (⟨3, (⟨#[]⟩ : ByteArray), 1⟩ : S36), (⟨2, (⟨#[]⟩ : ByteArray), 77⟩ : S36)] : List S36).take 2) = [(⟨1, (⟨#[113]⟩ : ByteArray), 0⟩ : S36), (⟨3, (⟨#[]⟩ : ByteArray), 1⟩ : S36)] := rfl
  have e2 : ((rd_T36 ([(⟨1, (⟨#[113]⟩ : ByteArray), 0⟩ : S36), (⟨3, (⟨#[]⟩ : ByteArray), 1⟩ : S36), (⟨2, (⟨#[]⟩ : ByteArray), 77⟩ : S36)] : List S36) 2).f2 != 77) = false := by decide +kernel
  have e3 : (⟨#[1, 113, 0, 1, 3, 1]⟩ : ByteArray).toList = ([1, 113, 0, 1, 3, 1] : List UInt8) := by rw [Lib.toList_data]
  refine Ev.congr (f := fun k => musterlaw01_KeysApart.j0 k s false) (fun k => ?_) ?_
  · rw [Option.bind_some, if_pos (by simp), e1, apart_head, Option.bind_some, if_pos e3, if_pos rfl, if_pos (by simp), e2]
  · refine Ev.step (f := fun k => (musterref01_Decode.f k s).bind fun bt372 => ((keys_Decode.f k s).bind fun bt376 => ((keys_Decode.f k s).bind fun bt380 => (musterlaw01_KeysApart.l0 k s bt372.1 bt372.2 bt376.1 bt380.1 (bt376.1.length : Int) 0)))) (fun k => ?_) ?_
    · simp only [musterlaw01_KeysApart.j0]
      rw [if_neg (by simp)]
    · refine Ev.bind h2 ?_
      refine Ev.bind h1 ?_
      refine Ev.bind h1 ?_
      exact apart_set s r hl h1 r.1.length 0 r.1 (by omega) (by omega) rfl
end Go.Proofs.Ytjkljhcfbgcgoaa.Pure
