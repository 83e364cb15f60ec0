/- keys, plain laws: what whole (Encode, Begin) writes, the reference's Encode, copied, SameParts. -/
import Derived.Test.YtjkljhcfbgcgoaaM0
import Derived.Test.YtjkljhcfbgcgoaaM1
import Derived.Test.YtjkljhcfbgcgoaaM2
import Derived.Lib.Strings
set_option linter.unusedVariables false
set_option linter.unusedSimpArgs false
namespace Go.Proofs.Ytjkljhcfbgcgoaa.Q
open Go.RowKit Go.Proofs.Ytjkljhcfbgcgoaa.K Go.Proofs.YtjkljhcfbgcgoaaW.PrintWords Go.Proofs.YtjkljhcfbgcgoaaW.PrintLast

def toI (b : UInt8) : Int := (b.toNat : Int)
theorem strN (xs : List UInt8) : strOfNums (xs.map toI) = ⟨xs.toArray⟩ := by
  unfold strOfNums
  rw [List.map_map]
  have e : ((fun n : Int => UInt8.ofNat n.toNat) ∘ toI) = id := by
    funext b; simp [toI]
  rw [e, List.map_id]
theorem wrap_small (i : Int) (h0 : 0 ≤ i) (h1 : i ≤ 9223372036854775807) : wrap64 i = i := by unfold wrap64; omega

/-! ### the bytes -/
def escB : List UInt8 → List UInt8
  | [] => []
  | b :: bs => (if b = 0 then [0, 255] else [b]) ++ escB bs
theorem escI_eq (l : List UInt8) : Hw.escI l = (escB l).map toI := by
  induction l with
  | nil => rfl
  | cons b l ih =>
    simp only [Hw.escI, escB, List.map_append, ih]
    split <;> rfl
def beU (n : Int) : List UInt8 := (List.range 8).map fun j => UInt8.ofNat (n / 2 ^ (56 - 8 * j) % 256).toNat
theorem be_eq (n : Int) : Hw.be n 8 = (beU n).map toI := by
  simp only [Hw.be, beU, List.map_map]
  apply List.map_congr_left
  intro j _
  have h0 : 0 ≤ n / 2 ^ (56 - 8 * j) % 256 := by omega
  have h1 : n / 2 ^ (56 - 8 * j) % 256 < 256 := by omega
  simp only [Hw.beB, Function.comp, toI, UInt8.toNat_ofNat']
  omega
def pcB (p : S36) (op : Bool) : List UInt8 :=
  if p.f0 = 1 then [1] ++ escB p.f1.data.toList ++ (if op then [] else [0, 1]) else if p.f0 = 2 then [2] ++ beU p.f2 else [3, UInt8.ofNat (p.f2 % 256).toNat]
theorem kpc_eq (p : S36) (op : Bool) : Hw.kpc p.f0 p.f1 p.f2 op = (pcB p op).map toI := by
  unfold Hw.kpc pcB
  split
  · rw [escI_eq]
    cases op <;> simp [toI]
  · split
    · rw [be_eq]; simp [toI]
    · have h0 : 0 ≤ p.f2 % 256 := by omega
      have h1 : p.f2 % 256 < 256 := by omega
      simp only [List.map_cons, List.map_nil, toI, UInt8.toNat_ofNat']
      congr 2
      omega
def encB : List S36 → Bool → List UInt8
  | [], _ => []
  | p :: ps, a => pcB p (a && ps.isEmpty) ++ encB ps a
theorem rd_succ (p : S36) (ps : List S36) (j : Nat) : rd_T36 (p :: ps) ((j + 1 : Nat) : Int) = rd_T36 ps (j : Int) := by
  simp only [rd_T36, Int.toNat_natCast, List.getD_cons_succ]
theorem whole_cons (p : S36) (ps : List S36) (a : Bool) (n : Nat) : wholeI (p :: ps) a (n + 1) = Hw.kpc p.f0 p.f1 p.f2 (a && ps.isEmpty) ++ wholeI ps a n := by
  unfold wholeI
  rw [List.range_succ_eq_map, List.flatMap_cons, List.flatMap_map]
  congr 1
  · have e : ((((0 : Nat) : Int) == (((p :: ps).length : Nat) : Int) - 1)) = ps.isEmpty := by
      rw [Bool.eq_iff_iff, beq_iff_eq, List.isEmpty_iff_length_eq_zero]
      simp only [List.length_cons]
      omega
    rw [e]
    rfl
  · rw [List.flatMap_def, List.flatMap_def]
    congr 1
    apply List.map_congr_left
    intro j _
    simp only [Nat.succ_eq_add_one, rd_succ]
    have e : (((j + 1 : Nat) : Int) == (((p :: ps).length : Nat) : Int) - 1) = ((j : Int) == (ps.length : Int) - 1) := by
      rw [Bool.eq_iff_iff, beq_iff_eq, beq_iff_eq]
      simp only [List.length_cons]
      omega
    rw [e]
theorem whole_eq (l : List S36) (a : Bool) : wholeI l a l.length = (encB l a).map toI := by
  induction l with
  | nil => rfl
  | cons p ps ih => rw [List.length_cons, whole_cons, ih, kpc_eq, encB, List.map_append]

/-! ### the answers -/
def encR (l : List S36) (a : Bool) : ByteArray × Int :=
  if l.all kvalid then (if (encB l a).length > 1024 then (⟨#[]⟩, 11) else (⟨(encB l a).toArray⟩, 0)) else (⟨#[]⟩, 10)
theorem whole_f (l : List S36) (a : Bool) (h : l.all kvalid = true → (encB l a).length + 2 ≤ 140737488355328) : keys_whole.f l a = some (encR l a) := by
  unfold keys_whole.f encR
  have hl : (wholeI l a l.length).length = (encB l a).length := by rw [whole_eq, List.length_map]
  rw [hl]
  by_cases hv : l.all kvalid = true
  · rw [if_pos hv, if_pos hv, if_pos (h hv)]
    by_cases hb : (encB l a).length > 1024
    · rw [if_pos hb, if_pos hb]
    · rw [if_neg hb, if_neg hb, whole_eq, strN]
  · rw [if_neg hv, if_neg hv]
theorem encode_f (l : List S36) (h : l.all kvalid = true → (encB l false).length + 2 ≤ 140737488355328) : keys_Encode.f l = some (encR l false) := by
  unfold keys_Encode.f
  rw [whole_f l false h]
  rfl
theorem begin_f (l : List S36) (h : l.all kvalid = true → (encB l true).length + 2 ≤ 140737488355328) : keys_Begin.f l = some (encR l true) := by
  unfold keys_Begin.f
  rw [whole_f l true h]
  rfl

/-! ### copied -/
theorem rd_at (l : List S36) (i : Nat) (h : i < l.length) : rd_T36 l (i : Int) = l[i] := by
  simp only [rd_T36, Int.toNat_natCast, List.getD_eq_getElem?_getD, List.getElem?_eq_getElem h, Option.getD_some]
theorem copied_ev (l : List S36) (h : l.length < 4398046511104) : Ev (fun k => musterlaw01_copied.f k l) l := by
  have key : ∀ d i : Nat, i ≤ l.length → l.length - i = d → Ev (fun k => musterlaw01_copied.l0 k (l.take i) l (l.length : Int) (i : Int)) l := by
    intro d
    induction d with
    | zero =>
      intro i hi hd
      have hi2 : i = l.length := by omega
      subst hi2
      refine Ev.step (f := fun _ => some l) (fun k => ?_) (Ev.now _)
      simp only [musterlaw01_copied.l0]
      rw [if_neg (by omega), List.take_length]
    | succ d ih =>
      intro i hi hd
      have hlt : i < l.length := by omega
      refine Ev.step (f := fun k => musterlaw01_copied.l0 k (l.take (i + 1)) l (l.length : Int) ((i + 1 : Nat) : Int)) (fun k => ?_) (ih (i + 1) (by omega) (by omega))
      simp only [musterlaw01_copied.l0]
      rw [if_pos (by omega), if_pos (by omega), if_pos (by omega), if_pos (by rw [List.length_take]; omega), rd_at l i hlt, List.take_succ_eq_append_getElem hlt, wrap_small _ (by omega) (by omega)]
      rfl
  have := key l.length 0 (by omega) (by omega)
  exact this

/-! ### SameParts -/
def sameP (p q : S36) : Bool := !(!(p.f0 == q.f0) || (!(p.f1.toList == q.f1.toList) || !(p.f2 == q.f2)))
theorem sameP_iff (p q : S36) : sameP p q = true ↔ p = q := by
  unfold sameP
  simp only [Bool.not_or, Bool.not_not, Bool.and_eq_true, beq_iff_eq]
  constructor
  · rintro ⟨h0, h1, h2⟩
    rw [Lib.toList_data, Lib.toList_data] at h1
    cases p; cases q
    simp only [S36.mk.injEq]
    exact ⟨h0, ByteArray.ext (Array.toList_inj.1 h1), h2⟩
  · rintro rfl; exact ⟨rfl, rfl, rfl⟩
def sameL : List S36 → List S36 → Bool
  | [], [] => true
  | p :: ps, q :: qs => sameP p q && sameL ps qs
  | _, _ => false
theorem sameL_iff : ∀ a b : List S36, sameL a b = true ↔ a = b
  | [], [] => by simp [sameL]
  | [], _ :: _ => by simp [sameL]
  | _ :: _, [] => by simp [sameL]
  | p :: ps, q :: qs => by simp [sameL, sameP_iff, sameL_iff ps qs]
theorem sameL_len : ∀ a b : List S36, sameL a b = true → a.length = b.length := fun a b h => by rw [(sameL_iff a b).1 h]
theorem same_ev (a b : List S36) (h : a.length < 4398046511104) : Ev (fun k => musterref01_SameParts.f k a b) (sameL a b) := by
  unfold musterref01_SameParts.f
  by_cases hl : (a.length : Int) = (b.length : Int)
  · have key : ∀ d i : Nat, i ≤ a.length → a.length - i = d → Ev (fun k => musterref01_SameParts.l0 k a b (i : Int)) (sameL (a.drop i) (b.drop i)) := by
      intro d
      induction d with
      | zero =>
        intro i hi hd
        refine Ev.step (f := fun _ => some (sameL (a.drop i) (b.drop i))) (fun k => ?_) (Ev.now _)
        simp only [musterref01_SameParts.l0]
        rw [if_neg (by omega), List.drop_eq_nil_of_le (by omega), List.drop_eq_nil_of_le (by omega)]
        rfl
      | succ d ih =>
        intro i hi hd
        have h1 : i < a.length := by omega
        have h2 : i < b.length := by omega
        rw [List.drop_eq_getElem_cons h1, List.drop_eq_getElem_cons h2]
        by_cases hp : sameP a[i] b[i] = true
        · have e : sameL (a[i] :: a.drop (i + 1)) (b[i] :: b.drop (i + 1)) = sameL (a.drop (i + 1)) (b.drop (i + 1)) := by simp [sameL, hp]
          rw [e]
          refine Ev.step (f := fun k => musterref01_SameParts.l0 k a b ((i + 1 : Nat) : Int)) (fun k => ?_) (ih (i + 1) (by omega) (by omega))
          simp only [musterref01_SameParts.l0]
          rw [if_pos (by omega), if_pos (by omega), if_pos (by omega), rd_at a i h1, rd_at b i h2, if_neg (by unfold sameP at hp; simpa using hp), wrap_small _ (by omega) (by omega)]
          rfl
        · have e : sameL (a[i] :: a.drop (i + 1)) (b[i] :: b.drop (i + 1)) = false := by simp [sameL, hp]
          rw [e]
          refine Ev.step (f := fun _ => some false) (fun k => ?_) (Ev.now _)
          simp only [musterref01_SameParts.l0]
          rw [if_pos (by omega), if_pos (by omega), if_pos (by omega), rd_at a i h1, rd_at b i h2, if_pos (by have h9 := Bool.eq_false_iff.2 hp; unfold sameP at h9; simpa only [Bool.not_eq_false'] using h9)]
    have := key a.length 0 (by omega) (by omega)
    refine Ev.congr (f := fun k => musterref01_SameParts.l0 k a b 0) (fun k => by rw [if_pos hl]) ?_
    simpa using this
  · have e : sameL a b = false := by
      rw [Bool.eq_false_iff]
      intro h2
      exact hl (by rw [sameL_len a b h2])
    rw [e]
    refine Ev.congr (f := fun _ => some false) (fun k => by rw [if_neg hl]) (Ev.now _)

/-! ### the reference's Encode -/
def wfP (p : S36) : Prop := 0 ≤ p.f2 ∧ p.f2 ≤ 18446744073709551615
theorem toList_nil (s : ByteArray) : s.toList = ([] : List UInt8) ↔ s.data.toList = [] := by rw [Lib.toList_data]
theorem valid_f (p : S36) (h : wfP p) : musterref01_Valid.f p.f0 p.f1 p.f2 = some (kvalid p) := by
  unfold musterref01_Valid.f kvalid keys_valid.f
  by_cases h1 : p.f0 = 1
  · simp [h1]
  · by_cases h2 : p.f0 = 2
    · simp [h2]
    · by_cases h3 : p.f0 = 3
      · simp only [h3]
        by_cases ht : p.f1.toList = []
        · simp only [ht]
          obtain ⟨h0, _⟩ := h
          by_cases hb : p.f2 > 1
          · have q0 : ¬ p.f2 = 0 := by omega
            have q1 : ¬ p.f2 = 1 := by omega
            simp [hb, q0, q1]
          · have : p.f2 = 0 ∨ p.f2 = 1 := by omega
            rcases this with e | e <;> simp [e]
        · have hte : p.f1.toList.isEmpty = false := by simpa using ht
          simp only [ht, if_false]
          by_cases hb : p.f2 > 1 <;> simp [hb, ht]
      · simp [h1, h2, h3]
theorem allvalid_ev (l : List S36) (hw : ∀ p ∈ l, wfP p) (h : l.length < 4398046511104) : Ev (fun k => musterref01_AllValid.f k l) (l.all kvalid) := by
  have key : ∀ d i : Nat, i ≤ l.length → l.length - i = d → Ev (fun k => musterref01_AllValid.l0 k l (l.length : Int) (i : Int)) ((l.drop i).all kvalid) := by
    intro d
    induction d with
    | zero =>
      intro i hi hd
      refine Ev.step (f := fun _ => some ((l.drop i).all kvalid)) (fun k => ?_) (Ev.now _)
      simp only [musterref01_AllValid.l0]
      rw [if_neg (by omega), List.drop_eq_nil_of_le (by omega)]
      rfl
    | succ d ih =>
      intro i hi hd
      have hlt : i < l.length := by omega
      have hv := valid_f l[i] (hw _ (List.getElem_mem hlt))
      rw [List.drop_eq_getElem_cons hlt]
      by_cases hk : kvalid l[i] = true
      · have e : ((l[i] :: l.drop (i + 1)).all kvalid) = (l.drop (i + 1)).all kvalid := by rw [List.all_cons, hk, Bool.true_and]
        rw [e]
        refine Ev.step (f := fun k => musterref01_AllValid.l0 k l (l.length : Int) ((i + 1 : Nat) : Int)) (fun k => ?_) (ih (i + 1) (by omega) (by omega))
        simp only [musterref01_AllValid.l0]
        rw [if_pos (by omega), if_pos (by omega), if_pos (by omega), rd_at l i hlt, hv, Option.bind_some, if_pos hk, wrap_small _ (by omega) (by omega)]
        rfl
      · have e : ((l[i] :: l.drop (i + 1)).all kvalid) = false := by rw [List.all_cons, Bool.eq_false_iff.2 hk, Bool.false_and]
        rw [e]
        refine Ev.step (f := fun _ => some false) (fun k => ?_) (Ev.now _)
        simp only [musterref01_AllValid.l0]
        rw [if_pos (by omega), if_pos (by omega), if_pos (by omega), rd_at l i hlt, hv, Option.bind_some, if_neg hk]
  exact key l.length 0 (by omega) (by omega)
theorem bt_list (s : ByteArray) (n : Nat) (h : n < s.data.toList.length) : bt s n = ((s.data.toList[n]).toNat : Int) := by
  have h' : n < s.size := by rw [Array.length_toList] at h; exact h
  simp [bt, h']
  rfl
theorem escI_len (l : List UInt8) : l.length ≤ (Hw.escI l).length := Hw.escI_length_ge l
theorem size_list (s : ByteArray) : s.size = s.data.toList.length := by rw [Array.length_toList]; rfl
theorem piece_text (op : Bool) (f0 f2 : Int) (s : ByteArray) (acc : List Int) (i : Nat) (hi : i ≤ s.data.toList.length) (hb : acc.length + (Hw.escI (s.data.toList.drop i)).length + 2 < 140737488355328) (hs : s.data.toList.length < 140737488355328) :
    Ev (fun k => musterref01_Piece.l0 k op acc (i : Int) f0 s f2) (acc ++ Hw.escI (s.data.toList.drop i) ++ (if op then [] else [0, 1])) := by
  have key : ∀ d (acc : List Int) (i : Nat), i ≤ s.data.toList.length → s.data.toList.length - i = d → acc.length + (Hw.escI (s.data.toList.drop i)).length + 2 < 140737488355328 →
      Ev (fun k => musterref01_Piece.l0 k op acc (i : Int) f0 s f2) (acc ++ Hw.escI (s.data.toList.drop i) ++ (if op then [] else [0, 1])) := by
    intro d
    induction d with
    | zero =>
      intro acc i hi hd hb
      have hz : s.data.toList.drop i = [] := List.drop_eq_nil_of_le (by omega)
      rw [hz] at hb ⊢
      refine Ev.step (f := fun _ => some (acc ++ Hw.escI [] ++ (if op then [] else [0, 1]))) (fun k => ?_) (Ev.now _)
      simp only [musterref01_Piece.l0]
      rw [if_neg (by rw [size_list]; omega)]
      simp only [Hw.escI, List.length_nil] at hb ⊢
      cases op
      · simp only [Bool.false_eq_true, if_false, Option.bind_some]
        rw [if_pos (by simp only [List.length_cons, List.length_nil]; omega)]
        simp
      · simp
    | succ d ih =>
      intro acc i hi hd hb
      have hlt : i < s.data.toList.length := by omega
      have hbt := bt_list s i hlt
      rw [List.drop_eq_getElem_cons hlt] at hb ⊢
      simp only [Hw.escI, List.length_append] at hb ⊢
      by_cases hx : s.data.toList[i] = 0
      · have hx2 : bt s i = 0 := by rw [hbt, hx]; rfl
        simp only [hx, if_true] at hb ⊢
        have e : acc ++ ([0, 255] ++ Hw.escI (s.data.toList.drop (i + 1))) ++ (if op then [] else [0, 1]) = (acc ++ [0, 255]) ++ Hw.escI (s.data.toList.drop (i + 1)) ++ (if op then [] else [0, 1]) := by simp only [List.append_assoc]
        rw [e]
        refine Ev.step (f := fun k => musterref01_Piece.l0 k op (acc ++ [0, 255]) ((i + 1 : Nat) : Int) f0 s f2) (fun k => ?_) (ih (acc ++ [0, 255]) (i + 1) (by omega) (by omega) (by simp only [List.length_append, List.length_cons, List.length_nil] at hb ⊢; omega))
        simp only [musterref01_Piece.l0]
        rw [if_pos (by rw [size_list]; omega), if_pos (by omega), if_pos hx2, Option.bind_some, if_pos (by simp only [List.length_cons, List.length_nil] at hb ⊢; omega), wrap_small _ (by omega) (by omega)]
        rfl
      · have hx2 : ¬ bt s i = 0 := by
          rw [hbt]; intro e; exact hx (UInt8.toNat_inj.1 (show (s.data.toList[i]).toNat = 0 by omega))
        simp only [if_neg hx] at hb ⊢
        have e : acc ++ ([((s.data.toList[i]).toNat : Int)] ++ Hw.escI (s.data.toList.drop (i + 1))) ++ (if op then [] else [0, 1]) = (acc ++ [((s.data.toList[i]).toNat : Int)]) ++ Hw.escI (s.data.toList.drop (i + 1)) ++ (if op then [] else [0, 1]) := by simp only [List.append_assoc]
        rw [e]
        refine Ev.step (f := fun k => musterref01_Piece.l0 k op (acc ++ [((s.data.toList[i]).toNat : Int)]) ((i + 1 : Nat) : Int) f0 s f2) (fun k => ?_) (ih (acc ++ [((s.data.toList[i]).toNat : Int)]) (i + 1) (by omega) (by omega) (by simp only [List.length_append, List.length_cons, List.length_nil] at hb ⊢; omega))
        simp only [musterref01_Piece.l0]
        rw [if_pos (by rw [size_list]; omega), if_pos (by omega), if_neg hx2, if_pos (by simp only [List.length_cons, List.length_nil] at hb; omega), hbt, wrap_small _ (by omega) (by omega)]
        rfl
  exact key _ acc i hi rfl hb
end Go.Proofs.Ytjkljhcfbgcgoaa.Q
