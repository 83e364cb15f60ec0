/- KeysBack, plainly: it comes to an answer, true. -/
import Derived.Test.YtjkljhcfbgcgoaaK44
import Derived.Test.YtjkljhcfbgcgoaaQ5
import Derived.Test.YtjkljhcfbgcgoaaQ3
set_option linter.unusedVariables false
set_option linter.unusedSimpArgs false
namespace Go.Proofs.Ytjkljhcfbgcgoaa.Q
open Go.RowKit Go.Proofs.Ytjkljhcfbgcgoaa.K Go.Proofs.YtjkljhcfbgcgoaaW.PrintWords Go.Proofs.YtjkljhcfbgcgoaaW.PrintLast

theorem encR_good (ps : List S36) (hg : Good ps) (h : (enc ps).length ≤ 1024) : encR ps false = (⟨(enc ps).toArray⟩, 0) := by
  unfold encR
  rw [if_pos hg.1, if_neg (show ¬ (encB ps false).length > 1024 from by unfold enc at h; omega)]
  rfl
theorem back_tail (s : ByteArray) : Ev (fun k => musterlaw01_KeysBack.j0 k s) true := by
  by_cases h : s.size ≤ 1024
  · rcases decode_ev s h with ⟨ps, hg, he, hev⟩ | ⟨_, hev⟩
    · refine Ev.step (f := fun k => (keys_Decode.f k s).bind fun bt356 => (if bt356.2 = 0 then ((keys_Encode.f bt356.1).bind fun bt360 => (if bt360.2 = 0 then (some (bt360.1.toList == s.toList)) else (some false))) else (some ((bt356.1.length : Int) == 0)))) (fun k => by simp only [musterlaw01_KeysBack.j0]) ?_
      refine Ev.bind hev ?_
      have hl : (enc ps).length ≤ 1024 := by rw [he, ← size_list]; exact h
      simp only [↓reduceIte]
      rw [encode_f ps (fun _ => by unfold enc at hl; omega), encR_good ps hg hl]
      simp only [Option.bind_some, ↓reduceIte]
      have e : (⟨(enc ps).toArray⟩ : ByteArray).toList = s.toList := by rw [Lib.toList_data, Lib.toList_data, he]
      rw [e, beq_self_eq_true]
      exact Ev.now _
    · refine Ev.step (f := fun k => (keys_Decode.f k s).bind fun bt356 => (if bt356.2 = 0 then ((keys_Encode.f bt356.1).bind fun bt360 => (if bt360.2 = 0 then (some (bt360.1.toList == s.toList)) else (some false))) else (some ((bt356.1.length : Int) == 0)))) (fun k => by simp only [musterlaw01_KeysBack.j0]) ?_
      refine Ev.bind hev ?_
      exact Ev.now _
  · refine Ev.step (f := fun k => (keys_Decode.f k s).bind fun bt356 => (if bt356.2 = 0 then ((keys_Encode.f bt356.1).bind fun bt360 => (if bt360.2 = 0 then (some (bt360.1.toList == s.toList)) else (some false))) else (some ((bt356.1.length : Int) == 0)))) (fun k => by simp only [musterlaw01_KeysBack.j0]) ?_
    refine Ev.bind (decode_long s h) ?_
    exact Ev.now _
theorem same_self (l : List S36) : sameL l l = true := (sameL_iff l l).2 rfl
theorem Back (l : List S36) (s : ByteArray) (hw : ∀ p ∈ l, wfP p) (hb : R.wt l ≤ 1048576) : ∃ k, musterlaw01_KeysBack.f k l s = some true := by
  have h1 := R.enc_le l false
  have h2 := R.wt_length l
  refine Ev.rounds (g := fun k => musterlaw01_KeysBack.f k l s) ?_
  unfold musterlaw01_KeysBack.f
  refine Ev.bind fixed_ev ?_
  simp only [↓reduceIte]
  refine Ev.bind (copied_ev l (by omega)) ?_
  refine Ev.bind (Ev.const (encode_f l (fun _ => by omega))) ?_
  unfold encR
  by_cases hv : l.all kvalid = true
  · rw [if_pos hv]
    by_cases hl : (encB l false).length > 1024
    · rw [if_pos hl]
      exact back_tail s
    · rw [if_neg hl]
      simp only [↓reduceIte]
      have hg : Good l := ⟨hv, hw⟩
      rcases decode_ev ⟨(encB l false).toArray⟩ (by rw [size_list]; simp only [List.toList_toArray]; omega) with ⟨ps, hp, he, hev⟩ | ⟨hno, _⟩
      · have : ps = l := enc_inj ps l hp hg (by rw [he]; simp only [List.toList_toArray]; rfl)
        subst this
        refine Ev.bind hev ?_
        simp only [↓reduceIte]
        refine Ev.bind (same_ev ps ps (by omega)) ?_
        simp only [same_self, ↓reduceIte]
        exact back_tail s
      · exact absurd (show enc l = _ by simp only [List.toList_toArray]; rfl) (hno l hg)
  · rw [if_neg hv]
    exact back_tail s
end Go.Proofs.Ytjkljhcfbgcgoaa.Q
