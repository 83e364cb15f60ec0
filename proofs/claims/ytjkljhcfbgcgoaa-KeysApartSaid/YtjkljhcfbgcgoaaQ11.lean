/- keys, plain laws: the reference's Decode and the program's come to one answer. -/
import Derived.Test.YtjkljhcfbgcgoaaM8
import Derived.Test.YtjkljhcfbgcgoaaM9
import Derived.Test.YtjkljhcfbgcgoaaQ3
import Derived.Test.YtjkljhcfbgcgoaaQ10
set_option linter.unusedVariables false
set_option linter.unusedSimpArgs false
namespace Go.Proofs.Ytjkljhcfbgcgoaa.Q
open Go.RowKit Go.Proofs.Ytjkljhcfbgcgoaa.K Go.Proofs.YtjkljhcfbgcgoaaW.PrintWords Go.Proofs.YtjkljhcfbgcgoaaW.PrintLast

attribute [local irreducible] musterref01_Decode.l0 musterref01_Decode.l1 musterref01_Decode.l2 musterref01_Decode.j3
theorem chars_size (xs : List Int) : (strOfNums xs).size = xs.length := by
  unfold strOfNums
  show (Array.size _) = _
  simp
theorem empty_size : (⟨#[]⟩ : ByteArray).size = 0 := rfl
/-- one round of the reference: a piece, and how far it goes -/
theorem ref_step (x0 : ByteArray) (acc : List S36) (at_ : Nat) (hz : x0.size ≤ 1024) (ha : acc.length ≤ 4000) (hlt : at_ < x0.size) :
    ∃ (p : S36) (c : Nat), 1 ≤ c ∧ at_ + c ≤ x0.size + 9 ∧ wfP p ∧ p.f1.size ≤ 1024 ∧
      (∀ k' t' n' c', pieceL (x0.data.toList.drop at_) = some (k', t', n', c') → c' ≠ 0 → p = ⟨k', t', n'⟩ ∧ c' = (c : Int)) ∧
      ∀ x, Ev (fun k => musterref01_Decode.l0 k x0 (acc ++ [p]) ((at_ + c : Nat) : Int)) x → Ev (fun k => musterref01_Decode.l0 k x0 acc (at_ : Int)) x := by
  obtain ⟨b, hb, hbt⟩ := bt_drop x0 at_ hlt
  have hbl := b.toNat_lt
  have wb : ∀ _ : Unit, wrap64 (b.toNat : Int) = (b.toNat : Int) := fun _ => wrap_small _ (by omega) (by omega)
  have w1 : ∀ _ : Unit, wrap64 ((at_ : Int) + 1) = ((at_ + 1 : Nat) : Int) := fun _ => by rw [wrap_small _ (by omega) (by omega)]; omega
  have w2 : ∀ _ : Unit, wrap64 ((at_ : Int) + 2) = ((at_ + 2 : Nat) : Int) := fun _ => by rw [wrap_small _ (by omega) (by omega)]; omega
  by_cases h2 : b = 2
  · have hn := num8_bound (x0.data.toList.drop (at_ + 1)) 8
    have e8 : (256 : Int) ^ 8 = 18446744073709551616 := by decide
    rw [e8] at hn
    refine ⟨⟨2, ⟨#[]⟩, num8 ((x0.data.toList.drop (at_ + 1)).take 8)⟩, 9, by omega, by omega, ⟨hn.1, by show num8 _ ≤ _; omega⟩, by rw [empty_size]; omega, ?_, ?_⟩
    · intro k' t' n' c' hp hc
      rw [hb, h2] at hp
      simp only [pieceL] at hp
      rw [if_neg (by decide), if_pos trivial] at hp
      split at hp
      · simp only [Option.some.injEq, Prod.mk.injEq] at hp
        obtain ⟨rfl, rfl, rfl, rfl⟩ := hp
        exact ⟨rfl, rfl⟩
      · simp only [Option.some.injEq, Prod.mk.injEq] at hp
        exact absurd hp.2.2.2.symm hc
    · intro x hx
      refine Ev.step (fun k => ?_) (num_ev x0 acc ⟨#[]⟩ x at_ hz ha (by omega) hx 8 0 (by omega) (by omega) (by omega))
      simp only [musterref01_Decode.l0]
      have e : num8 ((x0.data.toList.drop (at_ + 1)).take 0) = 0 := rfl
      rw [if_pos (by omega), if_pos (by omega), hbt, wb (), h2, if_pos (by decide), w1 (), e]
      rfl
  · have hb2 : ¬ (b.toNat : Int) = 2 := fun e => h2 ((byte_is b 2).1 e)
    by_cases h3 : b = 3
    · by_cases hl2 : at_ + 1 < x0.size
      · obtain ⟨d, hd, hdt⟩ := bt_drop x0 (at_ + 1) hl2
        have hdl := d.toNat_lt
        refine ⟨⟨3, ⟨#[]⟩, (d.toNat : Int)⟩, 2, by omega, by omega, ⟨by show (0 : Int) ≤ (d.toNat : Int); omega, by show (d.toNat : Int) ≤ _; omega⟩, by rw [empty_size]; omega, ?_, ?_⟩
        · intro k' t' n' c' hp hc
          rw [hb, h3, hd] at hp
          simp only [pieceL] at hp
          rw [if_neg (by decide), if_neg (by decide), if_pos trivial] at hp
          split at hp
          · simp only [Option.some.injEq, Prod.mk.injEq] at hp
            obtain ⟨rfl, rfl, rfl, rfl⟩ := hp
            exact ⟨rfl, rfl⟩
          · simp only [Option.some.injEq, Prod.mk.injEq] at hp
            exact absurd hp.2.2.2.symm hc
        · intro x hx
          refine Ev.step (fun k => ?_) hx
          have ed : ∀ _ : Unit, IntKind.u64.wrap (d.toNat : Int) = (d.toNat : Int) := fun _ => by simp [IntKind.wrap, IntKind.signed, IntKind.bits]; omega
          simp only [musterref01_Decode.l0]
          rw [if_pos (by omega), if_pos (by omega), hbt, wb (), if_neg hb2, h3, if_pos (by decide), w1 (), if_pos (by omega), if_pos (by omega), if_pos (by omega), hdt, ed (), w2 ()]
          rfl
      · refine ⟨⟨3, ⟨#[]⟩, 0⟩, 2, by omega, by omega, ⟨Int.le_refl 0, by decide⟩, by rw [empty_size]; omega, ?_, ?_⟩
        · intro k' t' n' c' hp hc
          have hn : x0.data.toList.drop (at_ + 1) = [] := List.drop_eq_nil_of_le (by rw [← size_list]; omega)
          rw [hb, h3, hn] at hp
          simp only [pieceL] at hp
          rw [if_neg (by decide), if_neg (by decide), if_pos trivial] at hp
          simp only [Option.some.injEq, Prod.mk.injEq] at hp
          exact absurd hp.2.2.2.symm hc
        · intro x hx
          refine Ev.step (fun k => ?_) hx
          simp only [musterref01_Decode.l0]
          rw [if_pos (by omega), if_pos (by omega), hbt, wb (), if_neg hb2, h3, if_pos (by decide), w1 (), if_neg (by omega), if_pos (by omega), w2 ()]
          rfl
    · have hb3 : ¬ (b.toNat : Int) = 3 := fun e => h3 ((byte_is b 3).1 e)
      obtain ⟨s1, s2, s3⟩ := cut_size _ (x0.data.toList.drop (at_ + 1)) (Nat.le_refl _)
      have hl : (x0.data.toList.drop (at_ + 1)).length = x0.size - (at_ + 1) := by rw [List.length_drop, ← size_list]
      refine ⟨⟨(b.toNat : Int), strOfNums (cutT (x0.data.toList.drop (at_ + 1))).1, 0⟩, 1 + (cutT (x0.data.toList.drop (at_ + 1))).2, by omega, by omega, ⟨Int.le_refl 0, by show (0 : Int) ≤ _; decide⟩, by rw [chars_size]; omega, ?_, ?_⟩
      · intro k' t' n' c' hp hc
        rw [hb] at hp
        simp only [pieceL] at hp
        by_cases h1 : b = 1
        · rw [if_pos h1] at hp
          cases hs : scanL (x0.data.toList.drop (at_ + 1)) with
          | none =>
            rw [hs] at hp
            simp only [Option.some.injEq, Prod.mk.injEq] at hp
            exact absurd hp.2.2.2.symm hc
          | some q =>
            rw [hs] at hp
            simp only [Option.some.injEq, Prod.mk.injEq] at hp
            obtain ⟨rfl, rfl, rfl, rfl⟩ := hp
            rw [cut_scan _ _ (Nat.le_refl _) q.1 q.2 hs, h1]
            exact ⟨rfl, by omega⟩
        · rw [if_neg h1, if_neg h2, if_neg h3] at hp
          simp only [Option.some.injEq, Prod.mk.injEq] at hp
          exact absurd hp.2.2.2.symm hc
      · intro x hx
        refine Ev.step (fun k => ?_) (cut_ev x0 acc (b.toNat : Int) ⟨#[]⟩ x hz ha _ (at_ + 1) [] (Nat.le_refl _) (by omega) (by simp) ?_)
        · simp only [musterref01_Decode.l0]
          rw [if_pos (by omega), if_pos (by omega), hbt, wb (), if_neg hb2, if_neg hb3, w1 ()]
        · rw [List.nil_append]
          have e : at_ + 1 + (cutT (x0.data.toList.drop (at_ + 1))).2 = at_ + (1 + (cutT (x0.data.toList.drop (at_ + 1))).2) := by omega
          rw [e]
          exact hx
theorem wt_snoc (l : List S36) (p : S36) : R.wt (l ++ [p]) = R.wt l + p.f1.size + 4 := by
  induction l with
  | nil => simp [R.wt]
  | cons q l ih => simp only [List.cons_append, R.wt, ih]; omega
def Told (s : ByteArray) (r : List S36 × Int) : Prop := (∃ ps, Good ps ∧ enc ps = s.data.toList ∧ r = (ps, 0)) ∨ ((∀ qs, Good qs → enc qs ≠ s.data.toList) ∧ r = ([], 12))
theorem ref_decode_loop (s : ByteArray) (hz : s.size ≤ 1024) : ∀ (d at_ : Nat) (acc : List S36), s.size - at_ ≤ d → at_ ≤ s.size + 9 → acc.length ≤ at_ → (∀ p ∈ acc, wfP p) → R.wt acc ≤ 2000 * at_ →
    (∀ qs, Good qs → enc qs = s.data.toList → ∃ rs, Good rs ∧ qs = acc ++ rs ∧ at_ ≤ s.size ∧ enc rs = s.data.toList.drop at_) →
    ∃ r, Told s r ∧ Ev (fun k => musterref01_Decode.l0 k s acc (at_ : Int)) r := by
  intro d
  induction d with
  | zero =>
    intro at_ acc hd hat hal hw hwt hC
    have he := R.enc_le acc false
    have hR : ∀ qs, Good qs → enc qs = s.data.toList → qs = acc := by
      intro qs hg hq
      obtain ⟨rs, hrs, e1, h2, h3⟩ := hC qs hg hq
      have hz2 : s.data.toList.drop at_ = [] := List.drop_eq_nil_of_le (by rw [← size_list]; omega)
      rw [hz2] at h3
      have hl := enc_len rs
      rw [h3] at hl
      have : rs = [] := List.length_eq_zero_iff.1 (Nat.le_zero.1 hl)
      rw [e1, this, List.append_nil]
    have hend : ∀ x, Ev (fun k => (musterref01_Encode.f k acc false).bind fun bt300 => (if bt300.2 = 0 then (if bt300.1.toList = s.toList then (some (acc, 0)) else (some (([] : List (S36)), 12))) else (some (([] : List (S36)), 12)))) x → Ev (fun k => musterref01_Decode.l0 k s acc (at_ : Int)) x := by
      intro x hx
      refine Ev.step (fun k => ?_) hx
      simp only [musterref01_Decode.l0]
      rw [if_neg (by omega)]
    have hev := encode_ev acc false hw (fun _ => by omega) (by omega)
    by_cases hok : (encR acc false).2 = 0
    · obtain ⟨hv, hl, hr⟩ := encR_snd acc hok
      rw [hr] at hev
      have e1 : (⟨(enc acc).toArray⟩ : ByteArray).toList = enc acc := by rw [Lib.toList_data]
      by_cases hs : enc acc = s.data.toList
      · refine ⟨(acc, 0), .inl ⟨acc, ⟨hv, hw⟩, hs, rfl⟩, hend _ (Ev.bind hev ?_)⟩
        simp only [e1, Lib.toList_data, hs, ↓reduceIte]
        exact Ev.now _
      · refine ⟨([], 12), .inr ⟨fun qs hg hq => hs (by rw [← hR qs hg hq]; exact hq), rfl⟩, hend _ (Ev.bind hev ?_)⟩
        simp only [e1, Lib.toList_data, hs, ↓reduceIte]
        exact Ev.now _
    · refine ⟨([], 12), .inr ⟨fun qs hg hq => ?_, rfl⟩, hend _ (Ev.bind hev ?_)⟩
      · have e := hR qs hg hq
        subst e
        apply hok
        rw [encR_good qs hg (by rw [hq, ← size_list]; exact hz)]
      · simp only [hok, ↓reduceIte]
        exact Ev.now _
  | succ d ih =>
    intro at_ acc hd hat hal hw hwt hC
    by_cases hlt : at_ < s.size
    · obtain ⟨p, c, hc1, hc2, hpw, hps, hpiece, hstep⟩ := ref_step s acc at_ hz (by omega) hlt
      obtain ⟨r, hr, hev⟩ := ih (at_ + c) (acc ++ [p]) (by omega) (by omega) (by simp; omega)
        (by intro q hq; rcases List.mem_append.1 hq with h | h; exact hw q h; rw [List.mem_singleton.1 h]; exact hpw)
        (by rw [wt_snoc]; omega)
        (by
          intro qs hg hq
          obtain ⟨rs, hrs, e1, h2, h3⟩ := hC qs hg hq
          cases rs with
          | nil =>
            have h4 := congrArg List.length h3
            rw [List.length_drop, ← size_list] at h4
            have e0 : (enc []).length = 0 := rfl
            omega
          | cons q rs =>
            obtain ⟨q1, q2, q3⟩ := hrs.head
            rw [enc_cons] at h3
            have hb := piece_back q q1 q2 (enc rs)
            rw [h3] at hb
            have hpos := pc_pos q false
            obtain ⟨e2, e3⟩ := hpiece _ _ _ _ hb (by unfold lenP; omega)
            have hcl : lenP q = c := by omega
            have hle : lenP q ≤ (s.data.toList.drop at_).length := by rw [← h3, List.length_append]; unfold lenP; omega
            rw [List.length_drop, ← size_list] at hle
            have e4 : p = q := by rw [e2]
            refine ⟨rs, q3, by rw [e1, e4, List.append_assoc]; rfl, by omega, ?_⟩
            rw [← List.drop_drop, ← h3, ← hcl]
            unfold lenP
            rw [List.drop_left])
      exact ⟨r, hr, hstep r hev⟩
    · exact ih at_ acc (by omega) hat hal hw hwt hC
theorem ref_decode_ev (s : ByteArray) (hz : s.size ≤ 1024) : ∃ r, Told s r ∧ Ev (fun k => musterref01_Decode.f k s) r := by
  obtain ⟨r, hr, hev⟩ := ref_decode_loop s hz s.size 0 [] (by omega) (by omega) (by simp) (by simp) (by simp [R.wt]) (fun qs hg hq => ⟨qs, hg, rfl, by omega, hq⟩)
  exact ⟨r, hr, Ev.congr (fun k => by unfold musterref01_Decode.f; rw [if_neg (by omega)]; rfl) hev⟩
theorem ref_decode_long (s : ByteArray) (h : ¬ s.size ≤ 1024) : Ev (fun k => musterref01_Decode.f k s) ([], 11) := by
  refine Ev.congr (f := fun _ => some (([] : List S36), (11 : Int))) (fun k => ?_) (Ev.now _)
  unfold musterref01_Decode.f
  rw [if_pos (by omega)]
/-- both come to one answer -/
theorem both_ev (s : ByteArray) : ∃ r : List S36 × Int, r.1.length ≤ 1024 ∧ Ev (fun k => keys_Decode.f k s) r ∧ Ev (fun k => musterref01_Decode.f k s) r := by
  by_cases h : s.size ≤ 1024
  · obtain ⟨r, hr, hev⟩ := ref_decode_ev s h
    rcases decode_ev s h with ⟨ps, hg, he, hd⟩ | ⟨hno, hd⟩
    · have hl := enc_len ps
      rw [he, ← size_list] at hl
      rcases hr with ⟨qs, hg2, he2, rfl⟩ | ⟨hno, _⟩
      · have := enc_inj ps qs hg hg2 (he.trans he2.symm)
        subst this
        exact ⟨(ps, 0), by show ps.length ≤ 1024; omega, hd, hev⟩
      · exact absurd he (hno ps hg)
    · rcases hr with ⟨qs, hg2, he2, rfl⟩ | ⟨_, rfl⟩
      · exact absurd he2 (hno qs hg2)
      · exact ⟨([], 12), by simp, hd, hev⟩
  · exact ⟨([], 11), by simp, decode_long s h, ref_decode_long s h⟩
end Go.Proofs.Ytjkljhcfbgcgoaa.Q
