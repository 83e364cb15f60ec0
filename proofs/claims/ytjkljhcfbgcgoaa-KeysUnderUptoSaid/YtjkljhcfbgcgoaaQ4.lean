/- keys, plain laws: one piece read and written. -/
import Derived.Test.YtjkljhcfbgcgoaaM9
import Derived.Test.YtjkljhcfbgcgoaaQ2
set_option linter.unusedVariables false
set_option linter.unusedSimpArgs false
namespace Go.Proofs.Ytjkljhcfbgcgoaa.Q
open Go.RowKit Go.Proofs.Ytjkljhcfbgcgoaa.K Go.Proofs.YtjkljhcfbgcgoaaW.PrintWords Go.Proofs.YtjkljhcfbgcgoaaW.PrintLast

theorem scan_esc (t x : List UInt8) : scanL (escB t ++ 0 :: 1 :: x) = some (t.map toI, (escB t).length + 2) := by
  induction t with
  | nil => exact scan_end x
  | cons b t ih =>
    by_cases hb : b = 0
    · subst hb
      simp only [escB, if_true, List.cons_append, List.nil_append]
      rw [scan_nul, ih]
      simp only [Option.map_some, List.map_cons, List.length_cons, toI]
      congr 2
    · simp only [escB, if_neg hb, List.cons_append, List.nil_append]
      obtain ⟨y, r, hL⟩ : ∃ y r, escB t ++ 0 :: 1 :: x = y :: r := by
        cases h : escB t with
        | nil => exact ⟨_, _, rfl⟩
        | cons y r => exact ⟨_, _, rfl⟩
      rw [hL, scan_byte b y r hb, ← hL, ih]
      simp only [Option.map_some, List.map_cons, List.length_cons, toI]
theorem scan_sound : ∀ (n : Nat) (r : List UInt8), r.length ≤ n → ∀ T N, scanL r = some (T, N) → ∃ t, T = t.map toI ∧ r.take N = escB t ++ [0, 1] ∧ N ≤ r.length
  | 0, r, hn, T, N, h => by
    have : r = [] := List.length_eq_zero_iff.1 (by omega)
    subst this; simp [scanL] at h
  | n + 1, r, hn, T, N, h => by
    match r, hn, h with
    | [], _, h => simp [scanL] at h
    | [x], _, h => simp [scanL] at h
    | x :: y :: r, hn, h =>
      by_cases hx : x = 0
      · subst hx
        by_cases hy : y = 255
        · subst hy
          rw [scan_nul] at h
          cases hs : scanL r with
          | none => rw [hs] at h; simp at h
          | some q =>
            rw [hs] at h
            simp at h
            obtain ⟨rfl, rfl⟩ := h
            obtain ⟨t, h1, h2, h3⟩ := scan_sound n r (by simp at hn; omega) q.1 q.2 hs
            refine ⟨0 :: t, by simp [h1, toI], ?_, by simp; omega⟩
            simp only [List.take_succ_cons, h2, escB, if_true, List.cons_append, List.nil_append]
        · by_cases hy2 : y = 1
          · subst hy2
            rw [scan_end] at h
            simp at h
            obtain ⟨rfl, rfl⟩ := h
            exact ⟨[], rfl, rfl, by simp⟩
          · rw [scan_bad y r hy hy2] at h
            simp at h
      · rw [scan_byte x y r hx] at h
        cases hs : scanL (y :: r) with
        | none => rw [hs] at h; simp at h
        | some q =>
          rw [hs] at h
          simp at h
          obtain ⟨rfl, rfl⟩ := h
          obtain ⟨t, h1, h2, h3⟩ := scan_sound n (y :: r) (by simp at hn ⊢; omega) q.1 q.2 hs
          refine ⟨x :: t, by simp [h1, toI], ?_, by simp at h3 ⊢; omega⟩
          simp only [List.take_succ_cons, h2, escB, if_neg hx, List.cons_append, List.nil_append]

/-! ### numbers -/
theorem num8_be (n : Int) (h0 : 0 ≤ n) (h1 : n ≤ 18446744073709551615) : num8 (beU n) = n := by
  have e : beU n = [UInt8.ofNat (n / 72057594037927936 % 256).toNat, UInt8.ofNat (n / 281474976710656 % 256).toNat, UInt8.ofNat (n / 1099511627776 % 256).toNat, UInt8.ofNat (n / 4294967296 % 256).toNat, UInt8.ofNat (n / 16777216 % 256).toNat, UInt8.ofNat (n / 65536 % 256).toNat, UInt8.ofNat (n / 256 % 256).toNat, UInt8.ofNat (n % 256).toNat] := by
    simp [beU, List.range_succ]
  rw [e]
  have d : ∀ x : Int, 0 ≤ x → x < 256 → (((UInt8.ofNat x.toNat).toNat : Nat) : Int) = x := by
    intro x hx0 hx1
    rw [UInt8.toNat_ofNat']
    omega
  simp only [num8, List.foldl_cons, List.foldl_nil]
  rw [d _ (by omega) (by omega), d _ (by omega) (by omega), d _ (by omega) (by omega), d _ (by omega) (by omega), d _ (by omega) (by omega), d _ (by omega) (by omega), d _ (by omega) (by omega), d _ (by omega) (by omega)]
  omega
theorem digit_eq (b : UInt8) (x : Int) (h : x = (b.toNat : Int)) : UInt8.ofNat x.toNat = b := by
  subst h
  simp
theorem be_num8 (l : List UInt8) (h : l.length = 8) : beU (num8 l) = l := by
  match l, h with
  | [a, b, c, d, e, f, g, i], _ =>
    have ha := a.toNat_lt; have hb := b.toNat_lt; have hc := c.toNat_lt; have hd := d.toNat_lt
    have he := e.toNat_lt; have hf := f.toNat_lt; have hg := g.toNat_lt; have hi := i.toNat_lt
    have en : num8 [a, b, c, d, e, f, g, i] = (((((((a.toNat : Int) * 256 + b.toNat) * 256 + c.toNat) * 256 + d.toNat) * 256 + e.toNat) * 256 + f.toNat) * 256 + g.toNat) * 256 + i.toNat := by
      simp [num8]
    rw [en]
    have e2 : ∀ n : Int, beU n = [UInt8.ofNat (n / 72057594037927936 % 256).toNat, UInt8.ofNat (n / 281474976710656 % 256).toNat, UInt8.ofNat (n / 1099511627776 % 256).toNat, UInt8.ofNat (n / 4294967296 % 256).toNat, UInt8.ofNat (n / 16777216 % 256).toNat, UInt8.ofNat (n / 65536 % 256).toNat, UInt8.ofNat (n / 256 % 256).toNat, UInt8.ofNat (n % 256).toNat] := by
      intro n; simp [beU, List.range_succ]
    rw [e2]
    rw [digit_eq a _ (by omega), digit_eq b _ (by omega), digit_eq c _ (by omega), digit_eq d _ (by omega), digit_eq e _ (by omega), digit_eq f _ (by omega), digit_eq g _ (by omega), digit_eq i _ (by omega)]
theorem num8_wf (l : List UInt8) (h : l.length = 8) : 0 ≤ num8 l ∧ num8 l ≤ 18446744073709551615 := by
  have := num8_bound l 8
  rw [List.take_of_length_le (by omega)] at this
  have e : (256 : Int) ^ 8 = 18446744073709551616 := by decide
  rw [e] at this
  omega

/-! ### a piece -/
def lenP (p : S36) : Nat := (pcB p false).length
theorem str_eq (s : ByteArray) : strOfNums (s.data.toList.map toI) = s := by rw [strN]
theorem kvalid_text (p : S36) (h : kvalid p = true) (h1 : p.f0 = 1) : p.f2 = 0 := by
  unfold kvalid keys_valid.f at h
  rw [if_pos h1] at h
  simpa using h
theorem data_nil (s : ByteArray) (h : s.toList = []) : s = ⟨#[]⟩ := by
  rw [Lib.toList_data] at h
  apply ByteArray.ext
  exact Array.toList_inj.1 (by rw [h])
theorem kvalid_num (p : S36) (h : kvalid p = true) (h1 : p.f0 = 2) : p.f1 = ⟨#[]⟩ := by
  unfold kvalid keys_valid.f at h
  rw [if_neg (by omega), if_neg (by omega), if_pos h1] at h
  exact data_nil _ (by simpa using h)
theorem kvalid_flag (p : S36) (h : kvalid p = true) (h1 : p.f0 = 3) : p.f1 = ⟨#[]⟩ ∧ p.f2 ≤ 1 := by
  unfold kvalid keys_valid.f at h
  rw [if_neg (by omega), if_pos h1] at h
  by_cases h2 : p.f2 > 1
  · rw [if_pos h2] at h; simp at h
  · rw [if_neg h2] at h
    exact ⟨data_nil _ (by simpa using h), by omega⟩
/-- what is written is read -/
theorem piece_back (p : S36) (hv : kvalid p = true) (hw : wfP p) (x : List UInt8) : pieceL (pcB p false ++ x) = some (p.f0, p.f1, p.f2, (lenP p : Int)) := by
  unfold lenP
  rcases kind_of p hv with h | h | h
  · have e : pcB p false = 1 :: (escB p.f1.data.toList ++ [0, 1]) := by simp [pcB, h]
    rw [e]
    have e2 : 1 :: (escB p.f1.data.toList ++ [0, 1]) ++ x = 1 :: (escB p.f1.data.toList ++ 0 :: 1 :: x) := by simp
    rw [e2]
    simp only [pieceL, if_true]
    rw [scan_esc]
    simp only [str_eq, Option.some.injEq, Prod.mk.injEq]
    refine ⟨h.symm, trivial, (kvalid_text p hv h).symm, ?_⟩
    simp only [List.length_cons, List.length_append, List.length_nil]
    omega
  · have e : pcB p false = 2 :: beU p.f2 := by simp [pcB, h]
    have hl : (beU p.f2).length = 8 := by simp [beU]
    rw [e]
    simp only [List.cons_append, pieceL]
    rw [if_neg (by decide), if_pos trivial, if_pos (by rw [List.length_append]; omega), List.take_append_of_le_length (by omega), List.take_of_length_le (by omega), num8_be _ hw.1 hw.2, kvalid_num p hv h, h]
    simp only [List.length_cons, hl]
    rfl
  · obtain ⟨h1, h2⟩ := kvalid_flag p hv h
    have e : pcB p false = [3, UInt8.ofNat (p.f2 % 256).toNat] := by simp [pcB, h]
    rw [e]
    have h3 : p.f2 = 0 ∨ p.f2 = 1 := by have := hw.1; omega
    simp only [List.cons_append, List.nil_append, pieceL]
    rw [if_neg (by decide), if_neg (by decide), if_pos trivial, h1, h]
    rcases h3 with h3 | h3 <;> rw [h3] <;> rfl
/-- what is read was written -/
theorem piece_sound (l : List UInt8) (k : Int) (t : ByteArray) (n c : Int) (h : pieceL l = some (k, t, n, c)) (hc : c ≠ 0) :
    kvalid ⟨k, t, n⟩ = true ∧ wfP ⟨k, t, n⟩ ∧ pcB ⟨k, t, n⟩ false = l.take c.toNat ∧ 0 < c ∧ c ≤ l.length := by
  match l, h with
  | [], h => simp [pieceL] at h
  | b :: r, h =>
    simp only [pieceL] at h
    by_cases h1 : b = 1
    · subst h1
      simp only [if_true] at h
      cases hs : scanL r with
      | none => rw [hs] at h; simp at h; obtain ⟨rfl, rfl, rfl, rfl⟩ := h; exact absurd rfl hc
      | some q =>
        rw [hs] at h
        simp at h
        obtain ⟨rfl, rfl, rfl, rfl⟩ := h
        obtain ⟨s, h1, h2, h3⟩ := scan_sound _ r (Nat.le_refl _) q.1 q.2 hs
        have et : (strOfNums q.1).data.toList = s := by rw [h1, strN]
        refine ⟨by simp [kvalid, keys_valid.f], ⟨Int.le_refl 0, by simp⟩, ?_, by omega, by simp; omega⟩
        have e : ((q.2 : Int) + 1).toNat = q.2 + 1 := by omega
        rw [e, List.take_succ_cons, h2]
        simp [pcB, et]
    · by_cases h2 : b = 2
      · subst h2
        by_cases h8 : 8 ≤ r.length
        · simp [h8] at h
          obtain ⟨rfl, rfl, rfl, rfl⟩ := h
          have hl : (r.take 8).length = 8 := by simp; omega
          have := num8_wf _ hl
          refine ⟨by simp [kvalid, keys_valid.f, Lib.toList_data], this, ?_, by omega, by simp; omega⟩
          show 2 :: beU (num8 (r.take 8)) = _
          rw [be_num8 _ hl]
          rfl
        · simp [h8] at h
          obtain ⟨rfl, rfl, rfl, rfl⟩ := h
          exact absurd rfl hc
      · by_cases h3 : b = 3
        · subst h3
          match r, h with
          | [], h => simp at h; obtain ⟨rfl, rfl, rfl, rfl⟩ := h; exact absurd rfl hc
          | d :: r, h =>
            by_cases hd : d < 2
            · simp [hd] at h
              obtain ⟨rfl, rfl, rfl, rfl⟩ := h
              have hd2 : d.toNat < 2 := UInt8.lt_iff_toNat_lt.1 hd
              have hg : ¬ (d.toNat : Int) > 1 := by omega
              refine ⟨?_, ⟨by simp, by simp; omega⟩, ?_, by omega, by simp; omega⟩
              · unfold kvalid keys_valid.f
                simp [hg, Lib.toList_data]
              · show [3, UInt8.ofNat (((d.toNat : Int) % 256).toNat)] = [3, d]
                have e : ((d.toNat : Int) % 256).toNat = d.toNat := by omega
                rw [e]
                simp
            · simp [hd] at h
              obtain ⟨rfl, rfl, rfl, rfl⟩ := h
              exact absurd rfl hc
        · simp [h1, h2, h3] at h
          obtain ⟨rfl, rfl, rfl, rfl⟩ := h
          exact absurd rfl hc
theorem bt_drop (s : ByteArray) (i : Nat) (h : i < s.size) : ∃ b, s.data.toList.drop i = b :: s.data.toList.drop (i + 1) ∧ bt s i = (b.toNat : Int) := by
  have h2 : i < s.data.toList.length := by rw [← size_list]; exact h
  exact ⟨_, List.drop_eq_getElem_cons h2, bt_list s i h2⟩
end Go.Proofs.Ytjkljhcfbgcgoaa.Q
