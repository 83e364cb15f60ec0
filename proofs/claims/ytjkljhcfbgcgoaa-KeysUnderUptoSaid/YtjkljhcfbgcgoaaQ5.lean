/- keys, plain laws: Decode. -/
import Derived.Test.YtjkljhcfbgcgoaaM9
import Derived.Test.YtjkljhcfbgcgoaaQ4
set_option linter.unusedVariables false
set_option linter.unusedSimpArgs false
namespace Go.Proofs.Ytjkljhcfbgcgoaa.Q
open Go.RowKit Go.Proofs.Ytjkljhcfbgcgoaa.K Go.Proofs.YtjkljhcfbgcgoaaW.PrintWords Go.Proofs.YtjkljhcfbgcgoaaW.PrintLast

def Good (ps : List S36) : Prop := ps.all kvalid = true ∧ ∀ p ∈ ps, wfP p
theorem Good.nil : Good [] := ⟨rfl, by simp⟩
theorem Good.cons {p : S36} {ps : List S36} (h1 : kvalid p = true) (h2 : wfP p) (h : Good ps) : Good (p :: ps) :=
  ⟨by simp [h1, h.1], by intro q hq; rcases List.mem_cons.1 hq with rfl | hq; exact h2; exact h.2 q hq⟩
theorem Good.head {p : S36} {ps : List S36} (h : Good (p :: ps)) : kvalid p = true ∧ wfP p ∧ Good ps := by
  have h1 := h.1
  rw [List.all_cons, Bool.and_eq_true] at h1
  exact ⟨h1.1, h.2 p (by simp), h1.2, fun q hq => h.2 q (by simp [hq])⟩
def enc (ps : List S36) : List UInt8 := encB ps false
theorem enc_cons (p : S36) (ps : List S36) : enc (p :: ps) = pcB p false ++ enc ps := by simp [enc, encB]
theorem pc_pos (p : S36) (op : Bool) : 0 < (pcB p op).length := by
  unfold pcB
  split
  · simp
  · split <;> simp
theorem pc_inj (p q : S36) (x y : List UInt8) (hp : kvalid p = true) (hpw : wfP p) (hq : kvalid q = true) (hqw : wfP q) (h : pcB p false ++ x = pcB q false ++ y) : p = q ∧ x = y := by
  have h1 := piece_back p hp hpw x
  have h2 := piece_back q hq hqw y
  rw [h, h2] at h1
  simp only [Option.some.injEq, Prod.mk.injEq] at h1
  obtain ⟨e0, e1, e2, _⟩ := h1
  have e : p = q := by cases p; cases q; simp_all
  subst e
  exact ⟨rfl, List.append_cancel_left h⟩
theorem enc_inj : ∀ ps qs : List S36, Good ps → Good qs → enc ps = enc qs → ps = qs
  | [], [], _, _, _ => rfl
  | [], q :: qs, _, _, h => by
    rw [enc_cons] at h
    have := congrArg List.length h
    have hp := pc_pos q false
    rw [List.length_append] at this
    have e0 : (enc []).length = 0 := rfl
    omega
  | p :: ps, [], _, _, h => by
    rw [enc_cons] at h
    have := congrArg List.length h
    have hp := pc_pos p false
    rw [List.length_append] at this
    have e0 : (enc []).length = 0 := rfl
    omega
  | p :: ps, q :: qs, hp, hq, h => by
    rw [enc_cons, enc_cons] at h
    obtain ⟨h1, h2, h3⟩ := hp.head
    obtain ⟨k1, k2, k3⟩ := hq.head
    obtain ⟨rfl, e⟩ := pc_inj p q _ _ h1 h2 k1 k2 h
    rw [enc_inj ps qs h3 k3 e]
theorem enc_len (ps : List S36) : ps.length ≤ (enc ps).length := by
  induction ps with
  | nil => exact Nat.le_refl 0
  | cons p ps ih =>
    have h := pc_pos p false
    rw [enc_cons, List.length_append, List.length_cons]
    exact Nat.le_trans (Nat.add_le_add_right ih 1) (by rw [Nat.add_comm]; exact Nat.add_le_add_right h _)

theorem extract_end (s : ByteArray) (n : Nat) (h : n ≤ s.size) : (s.extract n s.size).data.toList = s.data.toList.drop n := by
  rw [ByteArray.data_extract, Array.toList_extract, List.extract_eq_take_drop, List.take_of_length_le]
  rw [List.length_drop, Array.length_toList]
  show s.data.size - n ≤ s.size - n
  exact Nat.le_refl _
/-- keys.Decode on any bytes: the one list whose bytes they are, or none. -/
theorem decode_loop : ∀ (n : Nat) (s : ByteArray) (acc : List S36), s.size ≤ n → n ≤ 4096 → acc.length + n ≤ 8192 →
    (∃ ps, Good ps ∧ enc ps = s.data.toList ∧ Ev (fun k => keys_Decode.l0 k acc s) (acc ++ ps, 0)) ∨
    ((∀ qs, Good qs → enc qs ≠ s.data.toList) ∧ Ev (fun k => keys_Decode.l0 k acc s) ([], 12)) := by
  intro n
  induction n using Nat.strongRecOn with
  | _ n ih =>
    intro s acc hs hn ha
    cases hl : s.data.toList with
    | nil =>
      refine .inl ⟨[], Good.nil, rfl, ?_⟩
      refine Ev.step (f := fun _ => some (acc ++ [], 0)) (fun k => ?_) (Ev.now _)
      simp only [keys_Decode.l0]
      rw [if_pos (by rw [Lib.toList_data]; exact hl), List.append_nil]
    | cons b r =>
      have hne : ¬ s.toList = ([] : List UInt8) := by rw [Lib.toList_data, hl]; simp
      have hlen : s.size = r.length + 1 := by rw [size_list, hl]; rfl
      obtain ⟨k0, t0, n0, c0, hp⟩ : ∃ k t n c, pieceL (b :: r) = some (k, t, n, c) := by
        cases hq : pieceL (b :: r) with
        | some q => exact ⟨_, _, _, _, rfl⟩
        | none =>
          exfalso
          simp only [pieceL] at hq
          repeat' split at hq
          all_goals simp at hq
      have hf : keys_piece.f s = some (k0, t0, n0, c0) := by
        unfold keys_piece.f
        rw [if_pos (by omega), hl, hp]
      by_cases hc : c0 = 0
      · right
        subst hc
        refine ⟨fun qs hg he => ?_, ?_⟩
        · cases qs with
          | nil => simp [enc, encB] at he
          | cons q qs =>
            rw [enc_cons] at he
            obtain ⟨h1, h2, _⟩ := hg.head
            have := piece_back q h1 h2 (enc qs)
            rw [he, hp] at this
            simp only [Option.some.injEq, Prod.mk.injEq] at this
            have hpos := pc_pos q false
            have := this.2.2.2
            unfold lenP at this
            omega
        · refine Ev.step (f := fun _ => some (([] : List S36), (12 : Int))) (fun k => ?_) (Ev.now _)
          simp only [keys_Decode.l0]
          rw [if_neg hne, hf, Option.bind_some, if_pos rfl]
      · obtain ⟨hv, hw, ht, hc0, hcl⟩ := piece_sound _ _ _ _ _ hp hc
        have hcl2 : c0.toNat ≤ s.size := by rw [hlen]; simp only [List.length_cons] at hcl; omega
        have hdata := extract_end s c0.toNat hcl2
        rw [hl] at hdata
        have hstep : ∀ x, Ev (fun k => keys_Decode.l0 k (acc ++ [⟨k0, t0, n0⟩]) (s.extract c0.toNat s.size)) x → Ev (fun k => keys_Decode.l0 k acc s) x := by
          intro x hx
          refine Ev.step (fun k => ?_) hx
          simp only [keys_Decode.l0]
          rw [if_neg hne, hf, Option.bind_some, if_neg (show ¬ c0 = 0 from hc), if_pos (by omega), if_pos (show (0 : Int) ≤ c0 by omega), if_pos (show c0 ≤ (s.size : Int) by omega)]
        have hsz : (s.extract c0.toNat s.size).size = s.size - c0.toNat := by rw [ByteArray.size_extract]; omega
        have hsplit : b :: r = pcB ⟨k0, t0, n0⟩ false ++ (s.extract c0.toNat s.size).data.toList := by
          rw [ht, hdata, List.take_append_drop]
        rcases ih (s.size - c0.toNat) (by omega) (s.extract c0.toNat s.size) (acc ++ [⟨k0, t0, n0⟩]) (by omega) (by omega) (by simp; omega) with ⟨ps, hg, he, hev⟩ | ⟨hno, hev⟩
        · left
          refine ⟨⟨k0, t0, n0⟩ :: ps, Good.cons hv hw hg, by rw [enc_cons, he, ← hsplit], ?_⟩
          have := hstep _ hev
          rw [List.append_assoc] at this
          exact this
        · right
          refine ⟨fun qs hg he => ?_, hstep _ hev⟩
          cases qs with
          | nil => simp [enc, encB] at he
          | cons q qs =>
            rw [enc_cons, hsplit] at he
            obtain ⟨h1, h2, h3⟩ := hg.head
            obtain ⟨_, e⟩ := pc_inj q _ _ _ h1 h2 hv hw he
            exact hno qs h3 e
/-- .. and its whole. -/
theorem decode_ev (s : ByteArray) (h : s.size ≤ 1024) :
    (∃ ps, Good ps ∧ enc ps = s.data.toList ∧ Ev (fun k => keys_Decode.f k s) (ps, 0)) ∨
    ((∀ qs, Good qs → enc qs ≠ s.data.toList) ∧ Ev (fun k => keys_Decode.f k s) ([], 12)) := by
  have hf : ∀ k, keys_Decode.f k s = keys_Decode.l0 k [] s := fun k => by unfold keys_Decode.f; rw [if_neg (by omega)]
  rcases decode_loop s.size s [] (Nat.le_refl _) (by omega) (by simp; omega) with ⟨ps, hg, he, hev⟩ | ⟨hno, hev⟩
  · exact .inl ⟨ps, hg, he, Ev.congr hf hev⟩
  · exact .inr ⟨hno, Ev.congr hf hev⟩
theorem decode_long (s : ByteArray) (h : ¬ s.size ≤ 1024) : Ev (fun k => keys_Decode.f k s) ([], 11) := by
  refine Ev.congr (f := fun _ => some (([] : List S36), (11 : Int))) (fun k => ?_) (Ev.now _)
  unfold keys_Decode.f
  rw [if_pos (by omega)]
theorem encR_good (ps : List S36) (hg : Good ps) (h : (enc ps).length ≤ 1024) : encR ps false = (⟨(enc ps).toArray⟩, 0) := by
  unfold encR
  rw [if_pos hg.1, if_neg (show ¬ (encB ps false).length > 1024 from by unfold enc at h; omega)]
  rfl
theorem encR_snd (l : List S36) (h : (encR l false).2 = 0) : l.all kvalid = true ∧ (enc l).length ≤ 1024 ∧ encR l false = (⟨(enc l).toArray⟩, 0) := by
  unfold encR at h ⊢
  by_cases hv : l.all kvalid = true
  · rw [if_pos hv] at h ⊢
    by_cases hl : (encB l false).length > 1024
    · rw [if_pos hl] at h; simp at h
    · rw [if_neg hl]
      exact ⟨hv, show (encB l false).length ≤ 1024 by omega, rfl⟩
  · rw [if_neg hv] at h; simp at h
theorem same_self (l : List S36) : sameL l l = true := (sameL_iff l l).2 rfl
end Go.Proofs.Ytjkljhcfbgcgoaa.Q
