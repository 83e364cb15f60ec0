/- keys, plain laws: Compare. -/
import Derived.Test.YtjkljhcfbgcgoaaM2
import Derived.Test.YtjkljhcfbgcgoaaM4
import Derived.Test.YtjkljhcfbgcgoaaM5
import Derived.Test.YtjkljhcfbgcgoaaQ4
set_option linter.unusedVariables false
set_option linter.unusedSimpArgs false
namespace Go.Proofs.Ytjkljhcfbgcgoaa.Q
open Go.RowKit Go.Proofs.Ytjkljhcfbgcgoaa.K Go.Proofs.YtjkljhcfbgcgoaaW.PrintWords Go.Proofs.YtjkljhcfbgcgoaaW.PrintLast

def cmpI (a b : Int) : Int := if a < b then -1 else if a > b then 1 else 0
def cmpT (a b : ByteArray) : Int := if Op.bytesLess a.toList b.toList = true then -1 else if Op.bytesLess b.toList a.toList = true then 1 else 0
def or3 (a b c : Int) : Int := if a = 0 then (if b = 0 then c else b) else a
def partC (p q : S36) : Int := or3 (cmpI p.f0 q.f0) (cmpT p.f1 q.f1) (cmpI p.f2 q.f2)
def cmpL : List S36 → List S36 → Int
  | [], [] => 0
  | [], _ :: _ => -1
  | _ :: _, [] => 1
  | p :: ps, q :: qs => if sameP p q = true then cmpL ps qs else partC p q
theorem cmpI_f (a b : Int) : cmp_Compare_int.f a b = some (cmpI a b) := by
  unfold cmp_Compare_int.f cmpI cmp_isNaN_int.f
  simp
  repeat' split
  all_goals rfl
theorem cmpU_f (a b : Int) : cmp_Compare_uint64.f a b = some (cmpI a b) := by
  unfold cmp_Compare_uint64.f cmpI cmp_isNaN_uint64.f
  simp
  repeat' split
  all_goals rfl
theorem cmpT_f (a b : ByteArray) : cmp_Compare_string.f a b = some (cmpT a b) := by
  unfold cmp_Compare_string.f cmpT cmp_isNaN_string.f
  simp
  repeat' split
  all_goals rfl
theorem or_ev (a b c : Int) : Ev (fun k => cmp_Or_int.f k [a, b, c]) (or3 a b c) := by
  have e0 : wrap64 1 = 1 := by unfold wrap64; omega
  have e1 : wrap64 2 = 2 := by unfold wrap64; omega
  have e2 : wrap64 3 = 3 := by unfold wrap64; omega
  unfold cmp_Or_int.f or3
  by_cases ha : a = 0
  · refine Ev.step (f := fun k => cmp_Or_int.l0 k 0 [a, b, c] 3 1) (fun k => by simp [cmp_Or_int.l0, ha, rd, e0]) ?_
    by_cases hb : b = 0
    · refine Ev.step (f := fun k => cmp_Or_int.l0 k 0 [a, b, c] 3 2) (fun k => by simp [cmp_Or_int.l0, ha, hb, rd, e1]) ?_
      by_cases hc : c = 0
      · refine Ev.step (f := fun k => cmp_Or_int.l0 k 0 [a, b, c] 3 3) (fun k => by simp [cmp_Or_int.l0, ha, hb, hc, rd, e2]) ?_
        refine Ev.step (f := fun k => some 0) (fun k => by simp [cmp_Or_int.l0]) ?_
        simp only [ha, hb, hc, if_true]
        exact Ev.now _
      · refine Ev.step (f := fun k => some c) (fun k => by simp [cmp_Or_int.l0, ha, hb, hc, rd, e2]) ?_
        simp only [ha, hb, if_true]
        exact Ev.now _
    · refine Ev.step (f := fun k => some b) (fun k => by simp [cmp_Or_int.l0, ha, hb, rd, e1]) ?_
      simp only [ha, hb, if_true, if_false]
      exact Ev.now _
  · refine Ev.step (f := fun k => some a) (fun k => by simp [cmp_Or_int.l0, ha, rd]) ?_
    simp only [ha, if_false]
    exact Ev.now _
theorem cmpL_nil (a b : List S36) (h : a = [] ∨ b = []) : cmpL a b = cmpI (a.length : Int) (b.length : Int) := by
  unfold cmpI
  cases a with
  | nil =>
    cases b with
    | nil => rfl
    | cons q qs => simp only [cmpL, List.length_nil, List.length_cons]; rw [if_pos (by omega)]
  | cons p ps =>
    cases b with
    | nil => simp only [cmpL, List.length_nil, List.length_cons]; rw [if_neg (by omega), if_pos (by omega)]
    | cons q qs => simp at h
theorem sameP_and (p q : S36) : ((p.f0 == q.f0) && ((p.f1.toList == q.f1.toList) && (p.f2 == q.f2))) = sameP p q := by
  unfold sameP
  simp [Bool.not_or]
theorem cmp2_ev (a b : List S36) (ha : a.length < 4398046511104) : Ev (fun k => keys_cmp2.f k a b) (cmpL a b, 0) := by
  have key : ∀ d i : Nat, i ≤ a.length → i ≤ b.length → a.length - i = d → Ev (fun k => keys_cmp2.l0 k a b (i : Int)) (cmpL (a.drop i) (b.drop i), 0) := by
    intro d
    induction d with
    | zero =>
      intro i hi hib hd
      refine Ev.step (f := fun k => some (cmpL (a.drop i) (b.drop i), 0)) (fun k => ?_) (Ev.now _)
      simp only [keys_cmp2.l0]
      rw [if_neg (by unfold mn; split <;> omega), cmpI_f, Option.bind_some, cmpL_nil _ _ (.inl (List.drop_eq_nil_of_le (by omega)))]
      congr 2
      simp only [List.length_drop]
      unfold cmpI
      have e : a.length - i = 0 := hd
      rw [e]
      have e2 : i = a.length := by omega
      subst e2
      by_cases h1 : a.length < b.length
      · rw [if_pos (by omega), if_pos (by omega)]
      · rw [if_neg (by omega), if_neg (by omega), if_neg (by omega), if_neg (by omega)]
    | succ d ih =>
      intro i hi hib hd
      have h1 : i < a.length := by omega
      by_cases h2 : i < b.length
      · rw [List.drop_eq_getElem_cons h1, List.drop_eq_getElem_cons h2]
        simp only [cmpL]
        by_cases hp : sameP a[i] b[i] = true
        · rw [if_pos hp]
          refine Ev.step (f := fun k => keys_cmp2.l0 k a b ((i + 1 : Nat) : Int)) (fun k => ?_) (ih (i + 1) (by omega) (by omega) (by omega))
          simp only [keys_cmp2.l0]
          rw [if_pos (by unfold mn; split <;> omega), if_pos (by omega), if_pos (by omega), if_pos (by omega), rd_at a i h1, rd_at b i h2, if_pos (by rw [sameP_and]; exact hp), wrap_small _ (by omega) (by omega)]
          rfl
        · rw [if_neg hp]
          refine Ev.step (f := fun k => (cmp_Or_int.f k [cmpI a[i].f0 b[i].f0, cmpT a[i].f1 b[i].f1, cmpI a[i].f2 b[i].f2]).bind fun t => some (t, 0)) (fun k => ?_) (Ev.bind (or_ev _ _ _) (Ev.now _))
          simp only [keys_cmp2.l0]
          rw [if_pos (by unfold mn; split <;> omega), if_pos (by omega), if_pos (by omega), if_pos (by omega), rd_at a i h1, rd_at b i h2, if_neg (by rw [sameP_and]; exact hp), cmpI_f, Option.bind_some, cmpT_f, Option.bind_some, cmpU_f, Option.bind_some]
      · have e2 : i = b.length := by omega
        refine Ev.step (f := fun k => some (cmpL (a.drop i) (b.drop i), 0)) (fun k => ?_) (Ev.now _)
        simp only [keys_cmp2.l0]
        rw [if_neg (by unfold mn; split <;> omega), cmpI_f, Option.bind_some, cmpL_nil _ _ (.inr (List.drop_eq_nil_of_le (by omega)))]
        congr 2
        simp only [List.length_drop]
        unfold cmpI
        by_cases h3 : a.length < b.length
        · omega
        · rw [if_neg (by omega), if_pos (by omega), if_neg (by omega), if_pos (by omega)]
  have := key a.length 0 (by omega) (by omega) (by omega)
  exact this
def cmpR (a b : List S36) : Int × Int := if (a.all kvalid && b.all kvalid) = true then (cmpL a b, 0) else (0, 10)
theorem compare_ev (a b : List S36) (ha : a.length < 4398046511104) : Ev (fun k => keys_Compare.f k a b) (cmpR a b) := by
  unfold keys_Compare.f cmpR
  by_cases h : (a.all kvalid && b.all kvalid) = true
  · rw [if_pos h]
    simp only [h, if_true]
    exact cmp2_ev a b ha
  · rw [if_neg h]
    simp only [h, if_false]
    exact Ev.now _

/-! ### bytes in order -/
theorem less_cons (a b : UInt8) (x y : List UInt8) : Op.bytesLess (a :: x) (b :: y) = (decide (a < b) || (a == b && Op.bytesLess x y)) := rfl
theorem less_irrefl (x : List UInt8) : Op.bytesLess x x = false := by
  induction x with
  | nil => rfl
  | cons a x ih => rw [less_cons, ih]; simp
theorem u8_tri (a b : UInt8) : a < b ∨ a = b ∨ b < a := by
  rw [UInt8.lt_iff_toNat_lt, UInt8.lt_iff_toNat_lt, ← UInt8.toNat_inj]
  omega
theorem u8_asym (a b : UInt8) (h : a < b) : ¬ b < a ∧ ¬ a = b ∧ ¬ b = a := by
  rw [UInt8.lt_iff_toNat_lt] at h
  rw [UInt8.lt_iff_toNat_lt, ← UInt8.toNat_inj, ← UInt8.toNat_inj]
  omega
theorem less_flip (x y : List UInt8) (h : x ≠ y) : Op.bytesLess y x = !Op.bytesLess x y := by
  induction x generalizing y with
  | nil =>
    cases y with
    | nil => exact absurd rfl h
    | cons b y => rfl
  | cons a x ih =>
    cases y with
    | nil => rfl
    | cons b y =>
      rw [less_cons, less_cons]
      rcases u8_tri a b with hl | rfl | hl
      · obtain ⟨h1, h2, h3⟩ := u8_asym a b hl
        simp [hl, h1, h2, h3]
      · have : x ≠ y := fun e => h (by rw [e])
        simp [ih y this]
      · obtain ⟨h1, h2, h3⟩ := u8_asym b a hl
        simp [hl, h1, h2, h3]
theorem less_pre (p x y : List UInt8) : Op.bytesLess (p ++ x) (p ++ y) = Op.bytesLess x y := by
  induction p with
  | nil => rfl
  | cons a p ih => rw [List.cons_append, List.cons_append, less_cons, ih]; simp
/-! ### the reference's Less -/
theorem less_ev (x y : ByteArray) (hx : x.size < 4611686018427387904) : Ev (fun k => musterref01_Less.f k x y) (Op.bytesLess x.toList y.toList) := by
  have key : ∀ d i : Nat, i ≤ x.size → x.size - i = d → Ev (fun k => musterref01_Less.l0 k x y (i : Int)) (Op.bytesLess (x.data.toList.drop i) (y.data.toList.drop i)) := by
    intro d
    induction d with
    | zero =>
      intro i hi hd
      have hz : x.data.toList.drop i = [] := List.drop_eq_nil_of_le (by rw [← size_list]; omega)
      by_cases hy : i < y.size
      · obtain ⟨b, hb, _⟩ := bt_drop y i hy
        rw [hz, hb]
        refine Ev.step (f := fun k => musterref01_Less.j1 k x y i true) (fun k => ?_) ?_
        · simp only [musterref01_Less.l0]
          rw [if_pos (by omega), if_pos (by omega)]
        · refine Ev.step (f := fun k => some true) (fun k => ?_) (Ev.now _)
          simp only [musterref01_Less.j1, if_true]
      · have hz2 : y.data.toList.drop i = [] := List.drop_eq_nil_of_le (by rw [← size_list]; omega)
        rw [hz, hz2]
        refine Ev.step (f := fun k => some false) (fun k => ?_) (Ev.now _)
        simp only [musterref01_Less.l0]
        rw [if_neg (by omega)]
    | succ d ih =>
      intro i hi hd
      have hlt : i < x.size := by omega
      obtain ⟨a, ha, hba⟩ := bt_drop x i hlt
      by_cases hy : i < y.size
      · obtain ⟨b, hb, hbb⟩ := bt_drop y i hy
        have hab : (bt x i < bt y i) ↔ a < b := by rw [hba, hbb, UInt8.lt_iff_toNat_lt]; omega
        have hba2 : (bt x i > bt y i) ↔ b < a := by rw [hba, hbb, UInt8.lt_iff_toNat_lt]; omega
        rw [ha, hb, less_cons]
        refine Ev.step (f := fun k => musterref01_Less.j1 k x y i (decide (a < b))) (fun k => ?_) ?_
        · simp only [musterref01_Less.l0]
          rw [if_pos (by omega), if_neg (by omega), if_pos (by omega), if_pos (by omega)]
          congr 1
          exact decide_eq_decide.2 hab
        · rcases u8_tri a b with hl | rfl | hl
          · refine Ev.step (f := fun k => some true) (fun k => ?_) (by simp only [hl, decide_true, Bool.true_or]; exact Ev.now _)
            simp only [musterref01_Less.j1, hl, decide_true, if_true]
          · have hn : ¬ a < a := by rw [UInt8.lt_iff_toNat_lt]; omega
            have e : (decide (a < a) || (a == a && Op.bytesLess (x.data.toList.drop (i + 1)) (y.data.toList.drop (i + 1)))) = Op.bytesLess (x.data.toList.drop (i + 1)) (y.data.toList.drop (i + 1)) := by simp
            rw [e]
            refine Ev.step (f := fun k => musterref01_Less.l0 k x y ((i + 1 : Nat) : Int)) (fun k => ?_) (ih (i + 1) (by omega) (by omega))
            simp only [musterref01_Less.j1]
            rw [if_neg (by simp), if_pos (by omega), if_pos (by omega), if_pos (by omega), if_neg (by rw [hba2]; exact hn), wrap_small _ (by omega) (by omega)]
            rfl
          · obtain ⟨h1, h2, h3⟩ := u8_asym b a hl
            refine Ev.step (f := fun k => some false) (fun k => ?_) (by simp only [h1, h3, decide_false, Bool.false_or, beq_iff_eq, Bool.and_eq_true]; have : (a == b) = false := by simpa using h3
                                                                        rw [this]; exact Ev.now _)
            simp only [musterref01_Less.j1]
            rw [if_neg (by simp [h1]), if_pos (by omega), if_pos (by omega), if_pos (by omega), if_pos (by rw [hba2]; exact hl)]
      · have hz2 : y.data.toList.drop i = [] := List.drop_eq_nil_of_le (by rw [← size_list]; omega)
        rw [ha, hz2]
        refine Ev.step (f := fun k => some false) (fun k => ?_) (Ev.now _)
        simp only [musterref01_Less.l0]
        rw [if_neg (by omega)]
  have := key x.size 0 (by omega) (by omega)
  rw [Lib.toList_data, Lib.toList_data]
  exact this
end Go.Proofs.Ytjkljhcfbgcgoaa.Q
