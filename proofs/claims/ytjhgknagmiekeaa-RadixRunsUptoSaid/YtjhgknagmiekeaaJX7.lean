/- joined: N1 -/
import Derived.Test.YtjhgknagmiekeaaJX6
import Derived.Test.YtjhgknagmiekeaaJX5
set_option linter.unusedVariables false
set_option linter.unusedSimpArgs false
namespace Go.Proofs.Ytjhgknagmiekeaa.N
open Go.RowKit Go.Proofs.Ytjhgknagmiekeaa.K Go.Proofs.YtjhgknagmiekeaaW.PrintWords Go.Proofs.YtjhgknagmiekeaaW.PrintLast
theorem size_list (s : ByteArray) : s.size = s.data.toList.length := by rw [Array.length_toList]; rfl
theorem bt_list (s : ByteArray) (n : Nat) (h : n < s.data.toList.length) : bt s n = ((s.data.toList[n]).toNat : Int) := by
  have h' : n < s.size := by rw [Array.length_toList] at h; exact h
  simp [bt, h']
  rfl
theorem bt_drop (s : ByteArray) (i : Nat) (h : i < s.size) : ∃ b, s.data.toList.drop i = b :: s.data.toList.drop (i + 1) ∧ bt s i = (b.toNat : Int) := by
  have h2 : i < s.data.toList.length := by rw [← size_list]; exact h
  exact ⟨_, List.drop_eq_getElem_cons h2, bt_list s i h2⟩
theorem less_cons (a b : UInt8) (x y : List UInt8) : Op.bytesLess (a :: x) (b :: y) = (decide (a < b) || (a == b && Op.bytesLess x y)) := rfl
theorem u8_tri (a b : UInt8) : a < b ∨ a = b ∨ b < a := by
  rw [UInt8.lt_iff_toNat_lt, UInt8.lt_iff_toNat_lt, ← UInt8.toNat_inj]
  omega
theorem u8_asym (a b : UInt8) (h : a < b) : ¬ b < a ∧ ¬ a = b ∧ ¬ b = a := by
  rw [UInt8.lt_iff_toNat_lt] at h
  rw [UInt8.lt_iff_toNat_lt, ← UInt8.toNat_inj, ← UInt8.toNat_inj]
  omega
theorem less_ev (x y : ByteArray) (hx : x.size < 4611686018427387904) : Ev (fun k => musterref01_Less.f k x y) (Op.bytesLess x.toList y.toList) := by
  have key : ∀ d i : Nat, i ≤ x.size → x.size - i = d → Ev (fun k => musterref01_Less.l0 k x y (i : Int)) (Op.bytesLess (x.data.toList.drop i) (y.data.toList.drop i)) := by
    intro d
    induction d with
    | zero =>
      intro i hi hd
      have hz : x.data.toList.drop i = [] := List.drop_eq_nil_of_le (by rw [← size_list]; omega)
      by_cases hy : i < y.size
      · obtain ⟨b, hb, _⟩ := bt_drop y i hy
        rw [hz, hb]
        refine Ev.step (f := fun k => musterref01_Less.j1 k x y i true) (fun k => ?_) ?_
        · simp only [musterref01_Less.l0]
          rw [if_pos (by omega), if_pos (by omega)]
        · refine Ev.step (f := fun k => some true) (fun k => ?_) (Ev.now _)
          simp only [musterref01_Less.j1, if_true]
      · have hz2 : y.data.toList.drop i = [] := List.drop_eq_nil_of_le (by rw [← size_list]; omega)
        rw [hz, hz2]
        refine Ev.step (f := fun k => some false) (fun k => ?_) (Ev.now _)
        simp only [musterref01_Less.l0]
        rw [if_neg (by omega)]
    | succ d ih =>
      intro i hi hd
      have hlt : i < x.size := by omega
      obtain ⟨a, ha, hba⟩ := bt_drop x i hlt
      by_cases hy : i < y.size
      · obtain ⟨b, hb, hbb⟩ := bt_drop y i hy
        have hab : (bt x i < bt y i) ↔ a < b := by rw [hba, hbb, UInt8.lt_iff_toNat_lt]; omega
        have hba2 : (bt x i > bt y i) ↔ b < a := by rw [hba, hbb, UInt8.lt_iff_toNat_lt]; omega
        rw [ha, hb, less_cons]
        refine Ev.step (f := fun k => musterref01_Less.j1 k x y i (decide (a < b))) (fun k => ?_) ?_
        · simp only [musterref01_Less.l0]
          rw [if_pos (by omega), if_neg (by omega), if_pos (by omega), if_pos (by omega)]
          congr 1
          exact decide_eq_decide.2 hab
        · rcases u8_tri a b with hl | rfl | hl
          · refine Ev.step (f := fun k => some true) (fun k => ?_) (by simp only [hl, decide_true, Bool.true_or]; exact Ev.now _)
            simp only [musterref01_Less.j1, hl, decide_true, if_true]
          · have hn : ¬ a < a := by rw [UInt8.lt_iff_toNat_lt]; omega
            have e : (decide (a < a) || (a == a && Op.bytesLess (x.data.toList.drop (i + 1)) (y.data.toList.drop (i + 1)))) = Op.bytesLess (x.data.toList.drop (i + 1)) (y.data.toList.drop (i + 1)) := by simp
            rw [e]
            refine Ev.step (f := fun k => musterref01_Less.l0 k x y ((i + 1 : Nat) : Int)) (fun k => ?_) (ih (i + 1) (by omega) (by omega))
            simp only [musterref01_Less.j1]
            rw [if_neg (by simp), if_pos (by omega), if_pos (by omega), if_pos (by omega), if_neg (by rw [hba2]; exact hn), show wrap64 ((i : Int) + 1) = ((i + 1 : Nat) : Int) from by unfold wrap64; omega]
          · obtain ⟨h1, h2, h3⟩ := u8_asym b a hl
            refine Ev.step (f := fun k => some false) (fun k => ?_) (by simp only [h1, h3, decide_false, Bool.false_or, beq_iff_eq, Bool.and_eq_true]; have : (a == b) = false := by simpa using h3
                                                                        rw [this]; exact Ev.now _)
            simp only [musterref01_Less.j1]
            rw [if_neg (by simp [h1]), if_pos (by omega), if_pos (by omega), if_pos (by omega), if_pos (by rw [hba2]; exact hl)]
      · have hz2 : y.data.toList.drop i = [] := List.drop_eq_nil_of_le (by rw [← size_list]; omega)
        rw [ha, hz2]
        refine Ev.step (f := fun k => some false) (fun k => ?_) (Ev.now _)
        simp only [musterref01_Less.l0]
        rw [if_neg (by omega)]
  have := key x.size 0 (by omega) (by omega)
  rw [Lib.toList_data, Lib.toList_data]
  exact this
theorem less_dec (x y : ByteArray) : Op.bytesLess x.toList y.toList = decide (T.L x < T.L y) := by
  rw [Lib.toList_data, Lib.toList_data]
  exact bytesLess_eq _ _
abbrev gd (l : List ByteArray) (j : Nat) : ByteArray := l.getD j ⟨#[]⟩
def Rise (keys : List ByteArray) : Prop := (keys.map T.L).Pairwise (· < ·)
theorem Rise.lt {keys : List ByteArray} (h : Rise keys) {i j : Nat} (hij : i < j) (hj : j < keys.length) : T.L (gd keys i) < T.L (gd keys j) := by
  have h2 := List.pairwise_iff_getElem.1 h i j (by rw [List.length_map]; omega) (by rw [List.length_map]; exact hj) hij
  rw [List.getElem_map, List.getElem_map] at h2
  simp only [gd, List.getD_eq_getElem?_getD, List.getElem?_eq_getElem (show i < keys.length by omega), List.getElem?_eq_getElem hj, Option.getD_some]
  exact h2
def Cut (keys : List ByteArray) (a : ByteArray) (lo hi : Nat) : Prop := (∀ j, j < lo → T.L (gd keys j) < T.L a) ∧ ∀ j, hi ≤ j → j < keys.length → ¬ T.L (gd keys j) < T.L a
theorem mid_ev (lo hi : Nat) (h : lo < hi) (hh : hi < 4611686018427387904) : wrap64 ((lo : Int) + (wrap64 (Int.tdiv (wrap64 ((hi : Int) - (lo : Int))) 2))) = ((lo + (hi - lo) / 2 : Nat) : Int) := by
  have e1 : wrap64 ((hi : Int) - (lo : Int)) = ((hi - lo : Nat) : Int) := by unfold wrap64; omega
  rw [e1]
  have e2 : Int.tdiv ((hi - lo : Nat) : Int) 2 = (((hi - lo) / 2 : Nat) : Int) := by
    rw [Int.tdiv_eq_ediv_of_nonneg (by omega)]
    omega
  rw [e2]
  have e3 : wrap64 ((((hi - lo) / 2 : Nat) : Int)) = (((hi - lo) / 2 : Nat) : Int) := by unfold wrap64; omega
  rw [e3]
  unfold wrap64
  omega
theorem find_loop (keys : List ByteArray) (a : ByteArray) (hlen : keys.length < 4611686018427387904) (hs : ∀ k ∈ keys, k.size < 4611686018427387904) : ∀ (D lo hi : Nat), hi - lo ≤ D → lo ≤ hi → hi ≤ keys.length → (Rise keys → Cut keys a lo hi) →
    ∃ n : Nat, n ≤ keys.length ∧ Ev (fun k => musterref03_Find.l0 k keys a (lo : Int) (hi : Int)) ((n : Int), decide (n < keys.length) && (gd keys n).toList == a.toList) ∧ (Rise keys → Cut keys a n n) := by
  intro D
  induction D with
  | zero =>
    intro lo hi hd h1 h2 hc
    have e : lo = hi := by omega
    subst e
    refine ⟨lo, h2, ?_, hc⟩
    by_cases hl : lo < keys.length
    · refine Ev.step (f := fun k => some ((lo : Int), ((gd keys lo).toList == a.toList))) (fun k => ?_) (by rw [decide_eq_true hl]; exact Ev.now _)
      simp only [musterref03_Find.l0]
      rw [if_neg (by omega), if_pos (by omega), if_pos (by omega)]
      rfl
    · refine Ev.step (f := fun k => some ((lo : Int), false)) (fun k => ?_) (by rw [decide_eq_false hl]; exact Ev.now _)
      simp only [musterref03_Find.l0]
      rw [if_neg (by omega), if_neg (by omega)]
  | succ D ih =>
    intro lo hi hd h1 h2 hc
    by_cases hlt : lo < hi
    · obtain ⟨mid, emid⟩ : ∃ mid, lo + (hi - lo) / 2 = mid := ⟨_, rfl⟩
      have hm1 : lo ≤ mid := by omega
      have hm2 : mid < hi := by omega
      have hm3 : mid < keys.length := by omega
      have hw := mid_ev lo hi hlt (by omega)
      rw [emid] at hw
      have hk : (gd keys mid).size < 4611686018427387904 := by
        have e : gd keys mid = keys[mid] := by simp [gd, List.getD_eq_getElem?_getD, hm3]
        rw [e]; exact hs _ (List.getElem_mem _)
      have hless := less_ev (gd keys mid) a hk
      rw [less_dec] at hless
      have hstep : ∀ k, musterref03_Find.l0 (k + 1) keys a (lo : Int) (hi : Int) = (musterref01_Less.f k (gd keys mid) a).bind fun t => if t = true then musterref03_Find.l0 k keys a ((mid + 1 : Nat) : Int) (hi : Int) else musterref03_Find.l0 k keys a (lo : Int) (mid : Int) := fun k => by
        simp only [musterref03_Find.l0]
        rw [if_pos (by omega), hw, if_pos (by omega), if_pos (by omega)]
        have e1 : wrap64 ((mid : Int) + 1) = ((mid + 1 : Nat) : Int) := by unfold wrap64; omega
        rw [e1]
        rfl
      by_cases hL : T.L (gd keys mid) < T.L a
      · have hc2 : Rise keys → Cut keys a (mid + 1) hi := by
          intro hr
          refine ⟨fun j hj => ?_, (hc hr).2⟩
          rcases Nat.lt_or_ge j mid with h | h
          · exact T.blt_trans (hr.lt h hm3) hL
          · have : j = mid := by omega
            rw [this]
            exact hL
        obtain ⟨n, hn1, hn2, hn3⟩ := ih (mid + 1) hi (by omega) (by omega) h2 hc2
        refine ⟨n, hn1, Ev.step hstep (Ev.bind hless ?_), hn3⟩
        simp only [decide_eq_true hL, if_true]
        exact hn2
      · have hc2 : Rise keys → Cut keys a lo mid := by
          intro hr
          refine ⟨(hc hr).1, fun j h3 h4 h5 => ?_⟩
          rcases Nat.lt_or_ge mid j with h | h
          · exact hL (T.blt_trans (hr.lt h h4) h5)
          · have : j = mid := by omega
            rw [this] at h5
            exact hL h5
        obtain ⟨n, hn1, hn2, hn3⟩ := ih lo mid (by omega) hm1 (by omega) hc2
        refine ⟨n, hn1, Ev.step hstep (Ev.bind hless ?_), hn3⟩
        simp only [decide_eq_false hL]
        exact hn2
    · exact ih lo hi (by omega) h1 h2 hc
theorem gd_get {l : List ByteArray} {j : Nat} (h : j < l.length) : gd l j = l[j] := by simp [gd, List.getD_eq_getElem?_getD, h]
theorem find_ex (keys : List ByteArray) (a : ByteArray) (hlen : keys.length < 4611686018427387904) (hs : ∀ k ∈ keys, k.size < 4611686018427387904) :
    ∃ (n : Nat) (b : Bool), n ≤ keys.length ∧ Ev (fun k => musterref03_Find.f k keys a) ((n : Int), b) ∧ (b = true → n < keys.length ∧ gd keys n = a) ∧ (Rise keys → Cut keys a n n ∧ (b = true ↔ a ∈ keys)) := by
  obtain ⟨n, h1, h2, h3⟩ := find_loop keys a hlen hs keys.length 0 keys.length (by omega) (by omega) (Nat.le_refl _) (fun _ => ⟨fun j hj => by omega, fun j hj h => by omega⟩)
  have hb : (decide (n < keys.length) && (gd keys n).toList == a.toList) = true ↔ n < keys.length ∧ gd keys n = a := by
    rw [Bool.and_eq_true, decide_eq_true_eq, beq_iff_eq, Lib.toList_data, Lib.toList_data]
    exact ⟨fun h => ⟨h.1, T.L_inj h.2⟩, fun h => ⟨h.1, by rw [h.2]⟩⟩
  refine ⟨n, _, h1, h2, hb.1, fun hr => ⟨h3 hr, ?_⟩⟩
  rw [hb]
  constructor
  · rintro ⟨h4, h5⟩
    rw [← h5, gd_get h4]
    exact List.getElem_mem _
  · intro hm
    obtain ⟨j, hj, ej⟩ := List.getElem_of_mem hm
    rw [← gd_get hj] at ej
    have hc := h3 hr
    have hjn : j = n := by
      rcases Nat.lt_trichotomy j n with h | h | h
      · have := hc.1 j h
        rw [ej] at this
        exact absurd this (T.blt_irrefl _)
      · exact h
      · have h6 := hr.lt h hj
        rw [ej] at h6
        exact absurd h6 (hc.2 n (Nat.le_refl _) (by omega))
    subst hjn
    exact ⟨hj, ej⟩
end Go.Proofs.Ytjhgknagmiekeaa.N
