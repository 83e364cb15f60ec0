/- keys, plain laws: the reference's Decode. -/
import Derived.Test.YtjkljhcfbgcgoaaM8
import Derived.Test.YtjkljhcfbgcgoaaM9
import Derived.Test.YtjkljhcfbgcgoaaQ5
set_option linter.unusedVariables false
set_option linter.unusedSimpArgs false
namespace Go.Proofs.Ytjkljhcfbgcgoaa.Q
open Go.RowKit Go.Proofs.Ytjkljhcfbgcgoaa.K Go.Proofs.YtjkljhcfbgcgoaaW.PrintWords Go.Proofs.YtjkljhcfbgcgoaaW.PrintLast

attribute [local irreducible] musterref01_Decode.l0 musterref01_Decode.l1 musterref01_Decode.l2 musterref01_Decode.j3
/-! ### the text of a piece, as the reference cuts it -/
def cutT : List UInt8 → List Int × Nat
  | [] => ([], 2)
  | x :: l => match l with
    | [] => ([(x.toNat : Int)], if x = 0 then 4 else 3)
    | y :: r => if x ≠ 0 then ((x.toNat : Int) :: (cutT (y :: r)).1, (cutT (y :: r)).2 + 1) else if y = 1 then ([], 2) else ((0 : Int) :: (cutT r).1, (cutT r).2 + 2)
theorem cut_byte (x y : UInt8) (r : List UInt8) (h : x ≠ 0) : cutT (x :: y :: r) = ((x.toNat : Int) :: (cutT (y :: r)).1, (cutT (y :: r)).2 + 1) := by
  rw [cutT]; simp [h]
theorem cut_end (r : List UInt8) : cutT (0 :: 1 :: r) = ([], 2) := by rw [cutT]; simp
theorem cut_nul (y : UInt8) (r : List UInt8) (h : y ≠ 1) : cutT (0 :: y :: r) = ((0 : Int) :: (cutT r).1, (cutT r).2 + 2) := by rw [cutT]; simp [h]
theorem cut_scan : ∀ (n : Nat) (l : List UInt8), l.length ≤ n → ∀ T N, scanL l = some (T, N) → cutT l = (T, N)
  | 0, l, hn, T, N, h => by
    have : l = [] := List.length_eq_zero_iff.1 (by omega)
    subst this; simp [scanL] at h
  | n + 1, l, hn, T, N, h => by
    match l, hn, h with
    | [], _, h => simp [scanL] at h
    | [x], _, h => simp [scanL] at h
    | x :: y :: r, hn, h =>
      by_cases hx : x = 0
      · subst hx
        by_cases hy : y = 255
        · subst hy
          rw [scan_nul] at h
          cases hs : scanL r with
          | none => rw [hs] at h; simp at h
          | some q =>
            rw [hs] at h
            simp at h
            obtain ⟨rfl, rfl⟩ := h
            rw [cut_nul 255 r (by decide), cut_scan n r (by simp at hn; omega) q.1 q.2 hs]
        · by_cases hy2 : y = 1
          · subst hy2
            rw [scan_end] at h
            simp at h
            obtain ⟨rfl, rfl⟩ := h
            exact cut_end r
          · rw [scan_bad y r hy hy2] at h
            simp at h
      · rw [scan_byte x y r hx] at h
        cases hs : scanL (y :: r) with
        | none => rw [hs] at h; simp at h
        | some q =>
          rw [hs] at h
          simp at h
          obtain ⟨rfl, rfl⟩ := h
          rw [cut_byte x y r hx, cut_scan n (y :: r) (by simp at hn ⊢; omega) q.1 q.2 hs]
theorem cut_size : ∀ (n : Nat) (l : List UInt8), l.length ≤ n → (cutT l).1.length ≤ l.length ∧ (cutT l).2 ≤ l.length + 3 ∧ 1 ≤ (cutT l).2
  | 0, l, hn => by
    have : l = [] := List.length_eq_zero_iff.1 (by omega)
    subst this; simp [cutT]
  | n + 1, l, hn => by
    match l, hn with
    | [], _ => simp [cutT]
    | [x], _ => simp only [cutT]; split <;> simp
    | x :: y :: r, hn =>
      by_cases hx : x = 0
      · subst hx
        by_cases hy : y = 1
        · subst hy; rw [cut_end]; simp
        · rw [cut_nul y r hy]
          have := cut_size n r (by simp at hn; omega)
          simp only [List.length_cons]
          omega
      · rw [cut_byte x y r hx]
        have := cut_size n (y :: r) (by simp at hn ⊢; omega)
        simp only [List.length_cons] at this ⊢
        omega
theorem bt_byte (s : ByteArray) (i : Nat) (b : UInt8) (r : List UInt8) (h : s.data.toList.drop i = b :: r) : i < s.size ∧ bt s i = (b.toNat : Int) ∧ s.data.toList.drop (i + 1) = r := by
  have h2 : i < s.data.toList.length := by
    rcases Nat.lt_or_ge i s.data.toList.length with h2 | h2
    · exact h2
    · rw [List.drop_eq_nil_of_le h2] at h; simp at h
  have e := List.drop_eq_getElem_cons h2
  rw [h] at e
  simp only [List.cons.injEq] at e
  exact ⟨by rw [size_list]; exact h2, by rw [bt_list s i h2, e.1], e.2.symm⟩
theorem bt_end (s : ByteArray) (i : Nat) (h : s.data.toList.drop i = []) : s.size ≤ i := by
  rw [size_list]; exact List.drop_eq_nil_iff.1 h
theorem byte_zero (b : UInt8) : ((b.toNat : Int) = 0) ↔ b = 0 := by
  rw [← UInt8.toNat_inj]
  show _ ↔ b.toNat = 0
  omega
theorem byte_is (b c : UInt8) : ((b.toNat : Int) = (c.toNat : Int)) ↔ b = c := by
  rw [← UInt8.toNat_inj]; omega
theorem cut_ev (x0 : ByteArray) (acc : List S36) (kd : Int) (txt : ByteArray) (x : List S36 × Int) (hz : x0.size ≤ 1024) (ha : acc.length ≤ 4000) :
    ∀ (n : Nat) (i : Nat) (x8 : List Int), (x0.data.toList.drop i).length ≤ n → i ≤ 2000 → x8.length ≤ i →
      Ev (fun k => musterref01_Decode.l0 k x0 (acc ++ [⟨kd, strOfNums (x8 ++ (cutT (x0.data.toList.drop i)).1), 0⟩]) ((i + (cutT (x0.data.toList.drop i)).2 : Nat) : Int)) x →
      Ev (fun k => musterref01_Decode.l2 k x0 acc (i : Int) x8 kd txt 0) x := by
  intro n
  induction n using Nat.strongRecOn with
  | _ n ih =>
    intro i x8 hn hi hx8 hx
    cases hl : x0.data.toList.drop i with
    | nil =>
      have he := bt_end x0 i hl
      rw [hl] at hx
      simp only [cutT, List.append_nil] at hx
      refine Ev.step (fun k => ?_) hx
      simp only [musterref01_Decode.l2]
      rw [if_neg (by omega), if_pos (by omega), wrap_small _ (by omega) (by omega)]
      rfl
    | cons b r =>
      obtain ⟨hlt, hb, hr⟩ := bt_byte x0 i b r hl
      have hlen : (x0.data.toList.drop i).length = r.length + 1 := by rw [hl]; rfl
      have w1 : ∀ _ : Unit, wrap64 ((i : Int) + 1) = ((i + 1 : Nat) : Int) := fun _ => by rw [wrap_small _ (by omega) (by omega)]; rfl
      have w2 : ∀ _ : Unit, wrap64 (((i + 1 : Nat) : Int) + 1) = ((i + 2 : Nat) : Int) := fun _ => by rw [wrap_small _ (by omega) (by omega)]; omega
      have w3 : ∀ _ : Unit, wrap64 ((i : Int) + 2) = ((i + 2 : Nat) : Int) := fun _ => by rw [wrap_small _ (by omega) (by omega)]; omega
      -- what the tail of the round does
      have last : ∀ y, Ev (fun k => if b = 0 then musterref01_Decode.l2 k x0 acc ((i + 2 : Nat) : Int) (x8 ++ [(b.toNat : Int)]) kd txt 0 else musterref01_Decode.l2 k x0 acc ((i + 1 : Nat) : Int) (x8 ++ [(b.toNat : Int)]) kd txt 0) y → Ev (fun k => musterref01_Decode.j3 k x0 acc (i : Int) x8 false kd txt 0) y := by
        intro y hy
        refine Ev.step (fun k => ?_) hy
        simp only [musterref01_Decode.j3]
        rw [if_neg (by simp), if_pos (by omega), if_pos (by omega), if_pos (by omega), Option.bind_some, hb, w1 (), w2 ()]
        by_cases h0 : b = 0
        · rw [if_pos h0, if_pos ((byte_zero b).2 h0)]
        · rw [if_neg h0, if_neg (fun e => h0 ((byte_zero b).1 e))]
      by_cases h0 : b = 0
      · cases r with
        | nil =>
          have he : x0.size ≤ i + 1 := bt_end x0 (i + 1) hr
          rw [hl] at hx
          simp only [cutT, h0, if_true] at hx
          refine Ev.step (f := fun k => musterref01_Decode.j3 k x0 acc (i : Int) x8 false kd txt 0) (fun k => ?_) (last _ ?_)
          · simp only [musterref01_Decode.l2]
            rw [if_pos (by omega), if_pos (by omega), hb, if_pos ((byte_zero b).2 h0), w1 (), if_neg (by omega)]
          · simp only [h0, if_true]
            have hd : x0.data.toList.drop (i + 2) = [] := List.drop_eq_nil_of_le (by rw [← size_list]; omega)
            refine ih 0 (by omega) (i + 2) _ (by rw [hd]; simp) (by omega) (by simp; omega) ?_
            rw [hd]
            simp only [cutT, List.append_nil]
            exact hx
        | cons c r =>
          obtain ⟨hlt2, hc, hr2⟩ := bt_byte x0 (i + 1) c r hr
          by_cases h1 : c = 1
          · rw [hl, h0, h1, cut_end] at hx
            simp only [List.append_nil] at hx
            refine Ev.step (f := fun k => musterref01_Decode.j3 k x0 acc (i : Int) x8 true kd txt 0) (fun k => ?_) ?_
            · simp only [musterref01_Decode.l2]
              rw [if_pos (by omega), if_pos (by omega), hb, if_pos ((byte_zero b).2 h0), w1 (), if_pos (by omega), if_pos (by omega), hc, h1]
              rfl
            · refine Ev.step (fun k => ?_) hx
              simp only [musterref01_Decode.j3]
              rw [if_pos trivial, if_pos (by omega), w3 ()]
          · rw [hl, h0, cut_nul c r h1] at hx
            have hc1 : ((c.toNat : Int) == 1) = false := by
              rw [beq_eq_false_iff_ne]
              exact fun e => h1 ((byte_is c 1).1 e)
            refine Ev.step (f := fun k => musterref01_Decode.j3 k x0 acc (i : Int) x8 false kd txt 0) (fun k => ?_) (last _ ?_)
            · simp only [musterref01_Decode.l2]
              rw [if_pos (by omega), if_pos (by omega), hb, if_pos ((byte_zero b).2 h0), w1 (), if_pos (by omega), if_pos (by omega), hc, hc1]
            · simp only [h0, if_true]
              have hd : x0.data.toList.drop (i + 2) = r := hr2
              simp only [List.length_cons] at hlen
              refine ih r.length (by omega) (i + 2) _ (by rw [hd]; exact Nat.le_refl _) (by omega) (by simp; omega) ?_
              rw [hd]
              have e : i + 2 + (cutT r).2 = i + ((cutT r).2 + 2) := by omega
              rw [e, List.append_assoc]
              exact hx
      · refine Ev.step (f := fun k => musterref01_Decode.j3 k x0 acc (i : Int) x8 false kd txt 0) (fun k => ?_) (last _ ?_)
        · simp only [musterref01_Decode.l2]
          rw [if_pos (by omega), if_pos (by omega), hb, if_neg (fun e => h0 ((byte_zero b).1 e))]
        · simp only [h0, if_false]
          refine ih r.length (by omega) (i + 1) _ (by rw [hr]; exact Nat.le_refl _) (by omega) (by simp; omega) ?_
          rw [hr]
          rw [hl] at hx
          cases r with
          | nil =>
            simp only [cutT, h0, if_false] at hx ⊢
            rw [List.append_nil]
            exact hx
          | cons c r =>
            rw [cut_byte b c r h0] at hx
            have e : i + 1 + (cutT (c :: r)).2 = i + ((cutT (c :: r)).2 + 1) := by omega
            rw [e, List.append_assoc]
            exact hx

/-! ### the numbers -/
theorem num_ev (x0 : ByteArray) (acc : List S36) (txt : ByteArray) (x : List S36 × Int) (at_ : Nat) (hz : x0.size ≤ 1024) (ha : acc.length ≤ 4000) (hat : at_ ≤ 2000)
    (hx : Ev (fun k => musterref01_Decode.l0 k x0 (acc ++ [⟨2, txt, num8 ((x0.data.toList.drop (at_ + 1)).take 8)⟩]) ((at_ + 9 : Nat) : Int)) x) :
    ∀ d j : Nat, j ≤ 8 → 8 - j = d → at_ + 1 + j ≤ x0.size → Ev (fun k => musterref01_Decode.l1 k x0 acc (at_ : Int) ((at_ + 1 + j : Nat) : Int) 2 txt (num8 ((x0.data.toList.drop (at_ + 1)).take j))) x := by
  have w8 : ∀ _ : Unit, wrap64 ((at_ : Int) + 8) = (at_ : Int) + 8 := fun _ => wrap_small _ (by omega) (by omega)
  have w9 : ∀ _ : Unit, wrap64 ((at_ : Int) + 9) = ((at_ + 9 : Nat) : Int) := fun _ => by rw [wrap_small _ (by omega) (by omega)]; omega
  intro d
  induction d with
  | zero =>
    intro j hj hd hs
    have h8 : j = 8 := by omega
    subst h8
    refine Ev.step (fun k => ?_) hx
    simp only [musterref01_Decode.l1]
    by_cases hlt : at_ + 1 + 8 < x0.size
    · rw [if_pos (by omega), w8 (), if_neg (by omega), if_pos (by omega), w9 ()]
    · rw [if_neg (by omega), if_pos (by omega), w9 ()]
  | succ d ih =>
    intro j hj hd hs
    by_cases hlt : at_ + 1 + j < x0.size
    · obtain ⟨b, hb, hbt⟩ := bt_drop x0 (at_ + 1 + j) hlt
      refine Ev.step (fun k => ?_) (ih (j + 1) (by omega) (by omega) (by omega))
      simp only [musterref01_Decode.l1]
      have hjl : j < (x0.data.toList.drop (at_ + 1)).length := by rw [List.length_drop, ← size_list]; omega
      have hget : (x0.data.toList.drop (at_ + 1))[j] = b := by
        have e := List.drop_eq_getElem_cons hjl
        rw [List.drop_drop, hb] at e
        simp only [List.cons.injEq] at e
        exact e.1.symm
      have hn := num8_lt (x0.data.toList.drop (at_ + 1)) j (by omega)
      have hn0 := (num8_bound (x0.data.toList.drop (at_ + 1)) j).1
      have hbl := b.toNat_lt
      have e1 : ∀ _ : Unit, IntKind.u64.wrap (num8 ((x0.data.toList.drop (at_ + 1)).take j) * 256) = num8 ((x0.data.toList.drop (at_ + 1)).take j) * 256 := fun _ => by
        simp [IntKind.wrap, IntKind.signed, IntKind.bits]; omega
      have e2 : ∀ _ : Unit, IntKind.u64.wrap (b.toNat : Int) = (b.toNat : Int) := fun _ => by
        simp [IntKind.wrap, IntKind.signed, IntKind.bits]; omega
      have e3 : ∀ _ : Unit, IntKind.u64.wrap (num8 ((x0.data.toList.drop (at_ + 1)).take j) * 256 + (b.toNat : Int)) = num8 ((x0.data.toList.drop (at_ + 1)).take j) * 256 + (b.toNat : Int) := fun _ => by
        simp [IntKind.wrap, IntKind.signed, IntKind.bits]; omega
      rw [if_pos (by omega), w8 (), if_pos (by omega), if_pos (by omega), hbt, e1 (), e2 (), e3 (), List.take_succ_eq_append_getElem hjl, num8_snoc, hget, wrap_small _ (by omega) (by omega)]
      rfl
    · have he : at_ + 1 + j = x0.size := by omega
      have hl : (x0.data.toList.drop (at_ + 1)).length = j := by rw [List.length_drop, ← size_list]; omega
      have e : (x0.data.toList.drop (at_ + 1)).take j = (x0.data.toList.drop (at_ + 1)).take 8 := by
        rw [List.take_of_length_le (by omega), List.take_of_length_le (by omega)]
      rw [e]
      refine Ev.step (fun k => ?_) hx
      simp only [musterref01_Decode.l1]
      rw [if_neg (by omega), if_pos (by omega), w9 ()]
end Go.Proofs.Ytjkljhcfbgcgoaa.Q
