/- keys, plain laws: the reference's Encode is what whole writes. -/
import Derived.Test.YtjkljhcfbgcgoaaQ1
set_option linter.unusedVariables false
set_option linter.unusedSimpArgs false
namespace Go.Proofs.Ytjkljhcfbgcgoaa.Q
open Go.RowKit Go.Proofs.Ytjkljhcfbgcgoaa.K Go.Proofs.YtjkljhcfbgcgoaaW.PrintWords Go.Proofs.YtjkljhcfbgcgoaaW.PrintLast

theorem div_step (x : Int) (h0 : 0 ≤ x) (h1 : x ≤ 18446744073709551615) : IntKind.u64.wrap (Int.tdiv x 256) = x / 256 := by
  rw [Int.tdiv_eq_ediv_of_nonneg h0, IntKind.wrap_u64]; omega
theorem mod_step (x : Int) (h0 : 0 ≤ x) : (Int.tmod x 256) % 256 = x % 256 := by
  rw [Int.tmod_eq_emod_of_nonneg h0]; omega
/-- one round of the digits' loop -/
theorem num_round (acc l : List Int) (x : Int) (j : Nat) (r : List Int) (h0 : 0 ≤ x) (h1 : x ≤ 18446744073709551615) (hj : j < l.length) (hl : l.length ≤ 100)
    (h : Ev (fun k => musterref01_Piece.l1 k acc (x / 256) (l.set j (x % 256)) ((j : Int) - 1)) r) : Ev (fun k => musterref01_Piece.l1 k acc x l (j : Int)) r := by
  refine Ev.step (f := fun k => musterref01_Piece.l1 k acc (x / 256) (l.set j (x % 256)) ((j : Int) - 1)) (fun k => ?_) h
  simp only [musterref01_Piece.l1]
  rw [if_pos (by omega), if_pos (by omega), if_pos (by omega), div_step x h0 h1, mod_step x h0, Int.toNat_natCast]
  have e : wrap64 ((j : Int) - 1) = (j : Int) - 1 := by unfold wrap64; omega
  rw [e]
theorem num_list (n : Int) (h0 : 0 ≤ n) (h1 : n ≤ 18446744073709551615) (acc : List Int) (ha : acc.length < 100) : Ev (fun k => musterref01_Piece.l1 k acc n [0, 0, 0, 0, 0, 0, 0, 0] 7) (acc ++ Hw.be n 8) := by
  have b1 : n / 256 ≤ 18446744073709551615 := by omega
  have b2 : n / 256 / 256 ≤ 18446744073709551615 := by omega
  have b3 : n / 256 / 256 / 256 ≤ 18446744073709551615 := by omega
  refine num_round acc _ n 7 _ h0 h1 (by simp) (by simp) ?_
  refine num_round acc _ (n / 256) 6 _ (by omega) (by omega) (by simp) (by simp) ?_
  refine num_round acc _ (n / 256 / 256) 5 _ (by omega) (by omega) (by simp) (by simp) ?_
  generalize hm : n / 256 / 256 / 256 = m
  have hm0 : 0 ≤ m := by omega
  have hm1 : m ≤ 18446744073709551615 := by omega
  refine num_round acc _ m 4 _ (by omega) (by omega) (by simp) (by simp) ?_
  refine num_round acc _ (m / 256) 3 _ (by omega) (by omega) (by simp) (by simp) ?_
  refine num_round acc _ (m / 256 / 256) 2 _ (by omega) (by omega) (by simp) (by simp) ?_
  generalize hq : m / 256 / 256 / 256 = q
  have hq0 : 0 ≤ q := by omega
  have hq1 : q ≤ 18446744073709551615 := by omega
  refine num_round acc _ q 1 _ (by omega) (by omega) (by simp) (by simp) ?_
  refine num_round acc _ (q / 256) 0 _ (by omega) (by omega) (by simp) (by simp) ?_
  refine Ev.step (f := fun _ => some (acc ++ Hw.be n 8)) (fun k => ?_) (Ev.now _)
  simp only [musterref01_Piece.l1]
  rw [if_neg (by decide), if_pos (by simp; omega)]
  congr 2
  have e : Hw.be n 8 = [n / 72057594037927936 % 256, n / 281474976710656 % 256, n / 1099511627776 % 256, n / 4294967296 % 256, n / 16777216 % 256, n / 65536 % 256, n / 256 % 256, n % 256] := by
    simp [Hw.be, Hw.beB, List.range_succ]
  rw [e]
  simp only [List.set_cons_succ, List.set_cons_zero]
  congr 1
  · omega
  congr 1
  · omega
  congr 1
  · omega
  congr 1
  · omega
  congr 1
  · omega
  congr 1
  · omega

theorem kind_of (p : S36) (hv : kvalid p = true) : p.f0 = 1 ∨ p.f0 = 2 ∨ p.f0 = 3 := kvalid_kind p hv
theorem piece_ev (p : S36) (hv : kvalid p = true) (hw : wfP p) (op : Bool) (hb : (pcB p op).length + 3 < 140737488355328) : Ev (fun k => musterref01_Piece.f k p.f0 p.f1 p.f2 op) ((pcB p op).map toI) := by
  rw [← kpc_eq]
  unfold musterref01_Piece.f
  simp only [Option.bind_some]
  have hk := kpc_eq p op
  unfold Hw.kpc at hk ⊢
  rcases kind_of p hv with h | h | h
  · simp only [h, if_true] at hk ⊢
    have hlen : (pcB p op).length = ([1] ++ Hw.escI p.f1.data.toList ++ if op = true then [] else [0, 1]).length := by rw [hk, List.length_map]
    simp only [List.length_append, List.length_cons, List.length_nil] at hlen
    have h2 := escI_len p.f1.data.toList
    have := piece_text op 1 p.f2 p.f1 [1] 0 (by omega) (by simp only [List.drop_zero, List.length_cons, List.length_nil]; omega) (by omega)
    rw [List.drop_zero] at this
    exact this
  · have h1 : ¬ p.f0 = 1 := by omega
    have h3 : ¬ p.f0 = 3 := by omega
    simp only [h]
    exact num_list p.f2 hw.1 hw.2 [2] (by simp)
  · have h1 : ¬ p.f0 = 1 := by omega
    have h2 : ¬ p.f0 = 2 := by omega
    simp only [h, if_true]
    exact Ev.now _
theorem rd_mem (l : List S36) (i : Nat) (h : i < l.length) : rd_T36 l (i : Int) ∈ l := by rw [rd_at l i h]; exact List.getElem_mem h
theorem enc_loop (l : List S36) (a : Bool) (hv : l.all kvalid = true) (hw : ∀ p ∈ l, wfP p) (hb : (encB l a).length + 3 < 140737488355328) (hl : l.length < 4398046511104) :
    Ev (fun k => musterref01_Encode.l0 k l a [] 0) (if (encB l a).length > 1024 then (⟨#[]⟩, 11) else (⟨(encB l a).toArray⟩, 0)) := by
  have hlen : (wholeI l a l.length).length = (encB l a).length := by rw [whole_eq, List.length_map]
  have key : ∀ d i : Nat, i ≤ l.length → l.length - i = d → Ev (fun k => musterref01_Encode.l0 k l a (wholeI l a i) (i : Int)) (if (encB l a).length > 1024 then (⟨#[]⟩, 11) else (⟨(encB l a).toArray⟩, 0)) := by
    intro d
    induction d with
    | zero =>
      intro i hi hd
      have hi2 : i = l.length := by omega
      subst hi2
      refine Ev.step (f := fun _ => some (if (encB l a).length > 1024 then (⟨#[]⟩, 11) else (⟨(encB l a).toArray⟩, 0))) (fun k => ?_) (Ev.now _)
      simp only [musterref01_Encode.l0]
      rw [if_neg (by omega), hlen]
      by_cases h : (encB l a).length > 1024
      · rw [if_pos (by omega), if_pos h]
      · rw [if_neg (by omega), if_neg h, whole_eq, strN]
    | succ d ih =>
      intro i hi hd
      have hlt : i < l.length := by omega
      have hp := piece_ev (rd_T36 l i) (by have := List.all_eq_true.1 hv _ (rd_mem l i hlt); exact this) (hw _ (rd_mem l i hlt))
      have hm := wholeI_mono l a (i + 1) l.length (by omega)
      have hsucc := wholeI_succ l a i
      have hs2 := hsucc
      rw [kpc_eq] at hs2
      have hle : (wholeI l a i).length + (pcB (rd_T36 l i) (a && ((i : Int) == (l.length : Int) - 1))).length ≤ (encB l a).length := by
        rw [hs2, List.length_append, List.length_map, hlen] at hm; exact hm
      have hge : decide ((i : Int) ≥ wrap64 ((l.length : Int) - 1)) = ((i : Int) == (l.length : Int) - 1) := by
        have e : wrap64 ((l.length : Int) - 1) = (l.length : Int) - 1 := by unfold wrap64; omega
        rw [e, Bool.eq_iff_iff, decide_eq_true_eq, beq_iff_eq]
        omega
      refine Ev.step (f := fun k => (musterref01_Piece.f k (rd_T36 l i).f0 (rd_T36 l i).f1 (rd_T36 l i).f2 (a && ((i : Int) == (l.length : Int) - 1))).bind fun t => if (wholeI l a i).length + t.length < 140737488355328 then musterref01_Encode.l0 k l a (wholeI l a i ++ t) (wrap64 ((i : Int) + 1)) else none) (fun k => ?_) ?_
      · simp only [musterref01_Encode.l0]
        rw [if_pos (by omega), if_pos (by omega)]
        cases a with
        | true => rw [if_pos rfl, hge, Bool.true_and]
        | false => rw [if_neg (by decide), Bool.false_and]
      · refine Ev.bind (hp _ (by omega)) ?_
        refine Ev.congr (f := fun k => musterref01_Encode.l0 k l a (wholeI l a (i + 1)) ((i + 1 : Nat) : Int)) (fun k => ?_) (ih (i + 1) (by omega) (by omega))
        rw [if_pos (by rw [List.length_map]; omega), ← hs2, wrap_small _ (by omega) (by omega)]
        rfl
  exact key l.length 0 (by omega) (by omega)
theorem encode_ev (l : List S36) (a : Bool) (hw : ∀ p ∈ l, wfP p) (hb : l.all kvalid = true → (encB l a).length + 3 < 140737488355328) (hl : l.length < 4398046511104) : Ev (fun k => musterref01_Encode.f k l a) (encR l a) := by
  unfold musterref01_Encode.f
  refine Ev.bind (allvalid_ev l hw hl) ?_
  unfold encR
  by_cases hv : l.all kvalid = true
  · refine Ev.congr (f := fun k => musterref01_Encode.l0 k l a [] 0) (fun k => by rw [if_pos hv]) ?_
    rw [if_pos hv]
    exact enc_loop l a hv hw (hb hv) hl
  · refine Ev.congr (f := fun _ => some ((⟨#[]⟩ : ByteArray), (10 : Int))) (fun k => by rw [if_neg hv]) ?_
    rw [if_neg hv]
    exact Ev.now _
end Go.Proofs.Ytjkljhcfbgcgoaa.Q
