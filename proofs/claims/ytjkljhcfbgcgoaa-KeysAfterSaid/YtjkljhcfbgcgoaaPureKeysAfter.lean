/- KeysAfter: every After is the document's, and it parts the texts that begin with prefix from those behind them: true for every prefix and every other text. -/
import Derived.Test.YtjkljhcfbgcgoaaK5
import Derived.Lib.Strings
set_option linter.unusedVariables false
set_option linter.unusedSimpArgs false
namespace Go.Proofs.Ytjkljhcfbgcgoaa.Pure
open Go.RowKit Go.Proofs.Ytjkljhcfbgcgoaa.K Go.Proofs.YtjkljhcfbgcgoaaW.PrintWords Go.Proofs.YtjkljhcfbgcgoaaW.PrintLast

def afterL : List UInt8 → Option (List UInt8)
  | [] => none
  | c :: r => match afterL r with
    | some a => some (c :: a)
    | none => if c = 255 then none else some [c + 1]
theorem after_snoc (q : List UInt8) (b : UInt8) : afterL (q ++ [b]) = if b = 255 then afterL q else some (q ++ [b + 1]) := by
  induction q with
  | nil => simp [afterL]
  | cons c q ih =>
    simp only [List.cons_append, afterL, ih]
    by_cases hb : b = 255
    · simp [hb]
    · simp [hb]
theorem u8_lt_succ (c : UInt8) (h : c ≠ 255) : c < c + 1 := by
  rw [UInt8.lt_iff_toNat_lt]
  have h1 : c.toNat ≠ 255 := fun e => h (UInt8.toNat_inj.1 e)
  have h2 := c.toNat_lt
  rw [UInt8.toNat_add]
  show c.toNat < (c.toNat + 1) % 256
  omega
theorem u8_le_of (x c : UInt8) (hc : c ≠ 255) (h : x < c + 1) (h2 : ¬ x < c) : x = c := by
  rw [UInt8.lt_iff_toNat_lt] at h h2
  have h1 : c.toNat ≠ 255 := fun e => hc (UInt8.toNat_inj.1 e)
  have h3 := c.toNat_lt
  rw [UInt8.toNat_add] at h
  have h4 : x.toNat < (c.toNat + 1) % 256 := h
  exact UInt8.toNat_inj.1 (by omega)
theorem less_cons (a b : UInt8) (x y : List UInt8) : Op.bytesLess (a :: x) (b :: y) = (decide (a < b) || (a == b && Op.bytesLess x y)) := rfl
theorem after_gt (p a x : List UInt8) (h : afterL p = some a) : Op.bytesLess (p ++ x) a = true := by
  induction p generalizing a with
  | nil => simp [afterL] at h
  | cons c r ih =>
    simp only [afterL] at h
    cases hr : afterL r with
    | some a' =>
      rw [hr] at h
      simp at h
      subst h
      rw [List.cons_append, less_cons, ih a' hr]
      simp
    | none =>
      rw [hr] at h
      by_cases hc : c = 255
      · simp [hc] at h
      · simp [hc] at h
        subst h
        rw [List.cons_append, less_cons]
        simp [u8_lt_succ c hc]
theorem none_begins (p o : List UInt8) (h : afterL p = none) (hl : Op.bytesLess o p = false) : p <+: o := by
  induction p generalizing o with
  | nil => exact List.nil_prefix
  | cons c r ih =>
    simp only [afterL] at h
    cases hr : afterL r with
    | some a' => rw [hr] at h; simp at h
    | none =>
      rw [hr] at h
      by_cases hc : c = 255
      · subst hc
        cases o with
        | nil => simp [Op.bytesLess] at hl
        | cons x o =>
          rw [less_cons] at hl
          simp only [Bool.or_eq_false_iff, decide_eq_false_iff_not, Bool.and_eq_false_iff] at hl
          have hx : x = 255 := by
            have := hl.1
            rw [UInt8.lt_iff_toNat_lt] at this
            have h2 := x.toNat_lt
            have h3 : ¬ x.toNat < 255 := this
            exact UInt8.toNat_inj.1 (show x.toNat = 255 by omega)
          subst hx
          have := hl.2
          simp at this
          exact List.cons_prefix_cons.2 ⟨rfl, ih o hr this⟩
      · simp [hc] at h
theorem after_begins (p a o : List UInt8) (h : afterL p = some a) (hl : Op.bytesLess o p = false) (hg : Op.bytesLess o a = true) : p <+: o := by
  induction p generalizing a o with
  | nil => simp [afterL] at h
  | cons c r ih =>
    simp only [afterL] at h
    cases o with
    | nil => simp [Op.bytesLess] at hl
    | cons x o =>
      rw [less_cons] at hl
      simp only [Bool.or_eq_false_iff, decide_eq_false_iff_not, Bool.and_eq_false_iff] at hl
      cases hr : afterL r with
      | some a' =>
        rw [hr] at h
        simp at h
        subst h
        rw [less_cons] at hg
        simp only [Bool.or_eq_true, decide_eq_true_eq, Bool.and_eq_true, beq_iff_eq] at hg
        rcases hg with hg | ⟨rfl, hg⟩
        · exact absurd hg hl.1
        · have := hl.2
          simp at this
          exact List.cons_prefix_cons.2 ⟨rfl, ih a' o hr this hg⟩
      | none =>
        rw [hr] at h
        by_cases hc : c = 255
        · simp [hc] at h
        · simp [hc] at h
          subst h
          rw [less_cons] at hg
          have hn : Op.bytesLess o [] = false := by cases o <;> rfl
          rw [hn] at hg
          simp at hg
          have hx := u8_le_of x c hc hg hl.1
          subst hx
          have := hl.2
          simp at this
          exact List.cons_prefix_cons.2 ⟨rfl, none_begins r o hr this⟩

def endA (o : Option (List UInt8)) : ByteArray × Bool := match o with
  | some a => (⟨a.toArray⟩, true)
  | none => (⟨#[]⟩, false)
theorem bt_list (s : ByteArray) (n : Nat) (h : n < s.data.toList.length) : bt s n = ((s.data.toList[n]).toNat : Int) := by
  have h' : n < s.size := by rw [Array.length_toList] at h; exact h
  simp [bt, h']
  rfl
theorem ref_after (s : ByteArray) (n : Nat) (h : n ≤ s.data.toList.length) : refAfter s n = endA (afterL (s.data.toList.take n)) := by
  induction n with
  | zero => rfl
  | succ n ih =>
    rw [List.take_succ_eq_append_getElem (by omega), after_snoc]
    simp only [refAfter]
    have hb := bt_list s n (by omega)
    by_cases hc : s.data.toList[n] = 255
    · have : bt s n = 255 := by rw [hb, hc]; rfl
      rw [if_pos this, if_pos hc]
      exact ih (by omega)
    · have : ¬ bt s n = 255 := by
        rw [hb]; intro e
        exact hc (UInt8.toNat_inj.1 (show (s.data.toList[n]).toNat = 255 by omega))
      rw [if_neg this, if_neg hc]
      simp only [endA, Prod.mk.injEq, and_true]
      unfold strOfNums
      congr 1
      congr 1
      rw [hb]
      generalize s.data.toList[n] = c at *
      simp only [bytesOf, List.map_append, List.map_take, List.map_map, List.map_cons, List.map_nil]
      congr 1
      · congr 1
        have e : ((fun n : Int => UInt8.ofNat n.toNat) ∘ fun b : UInt8 => (b.toNat : Int)) = id := by
          funext b; simp
        rw [e, List.map_id]

theorem ext_ext (s : ByteArray) (m n : Nat) (h : n ≤ m) (hm : m ≤ s.size) : (s.extract 0 m).extract 0 n = s.extract 0 n := by
  apply ByteArray.ext
  simp only [ByteArray.data_extract]
  rw [Array.extract_extract]
  congr 1
  omega
theorem ext_all (s : ByteArray) : s.extract 0 s.size = s := by
  apply ByteArray.ext
  rw [ByteArray.data_extract]
  exact Array.extract_size
theorem after_ev (s : ByteArray) (hs : s.size ≤ 140737488351232) (m : Nat) (hm : m ≤ s.size) : Ev (fun k => keys_After.l0 k (s.extract 0 m)) (endA (afterL (s.data.toList.take m))) := by
  induction m with
  | zero =>
    refine Ev.step (f := fun _ => some (endA (afterL (s.data.toList.take 0)))) (fun k => ?_) (Ev.now _)
    simp only [keys_After.l0]
    rw [if_pos (by rw [Lib.toList_data, ByteArray.data_extract]; simp)]
    rfl
  | succ m ih =>
    have hsz : (s.extract 0 (m + 1)).size = m + 1 := by rw [ByteArray.size_extract]; omega
    have hw : wrap64 (((s.extract 0 (m + 1)).size : Int) - 1) = m := by rw [hsz]; unfold wrap64; omega
    have hll : m < s.data.toList.length := by rw [Array.length_toList]; exact hm
    have hb : bt (s.extract 0 (m + 1)) m = ((s.data.toList[m]).toNat : Int) := by rw [K.bt_extract s (m + 1) m hm (by omega), bt_list s m hll]
    have hne : ¬ (s.extract 0 (m + 1)).toList = [] := by
      intro e
      have := congrArg List.length e
      rw [Lib.toList_data, Array.length_toList] at this
      have h2 : (s.extract 0 (m + 1)).data.size = m + 1 := hsz
      rw [h2] at this
      simp at this
    rw [List.take_succ_eq_append_getElem hll, after_snoc]
    by_cases hc : s.data.toList[m] = 255
    · rw [if_pos hc]
      refine Ev.step (f := fun k => keys_After.l0 k (s.extract 0 m)) (fun k => ?_) (ih (by omega))
      simp only [keys_After.l0]
      rw [if_neg hne, hw, if_pos (by omega), if_pos (by rw [hsz]; omega), if_pos (by rw [hb, hc]; rfl), if_pos (by rw [hsz]; omega), Int.toNat_natCast, ext_ext s (m + 1) m (by omega) hm]
    · rw [if_neg hc]
      have hc2 : (s.data.toList[m]).toNat ≠ 255 := fun e => hc (UInt8.toNat_inj.1 e)
      refine Ev.step (f := fun _ => some (endA (some (s.data.toList.take m ++ [s.data.toList[m] + 1])))) (fun k => ?_) (Ev.now _)
      simp only [keys_After.l0]
      rw [if_neg hne, hw, if_pos (by omega), if_pos (by rw [hsz]; omega), if_neg (by rw [hb]; omega), if_pos (by rw [hsz]; omega), Int.toNat_natCast, ext_ext s (m + 1) m (by omega) hm, hb]
      have hsz2 : (s.extract 0 m).size = m := by rw [ByteArray.size_extract]; omega
      rw [Option.bind_some, if_pos (by rw [hsz2, strOfNums_size]; simp; omega)]
      simp only [endA, Option.some.injEq, Prod.mk.injEq, and_true]
      apply ByteArray.ext
      rw [ByteArray.data_append, ByteArray.data_extract]
      apply Array.toList_inj.1
      rw [Array.toList_append, strOfNums_data, Array.toList_extract]
      simp only [List.extract_eq_take_drop, Nat.sub_zero, List.drop_zero, List.map_cons, List.map_nil]
      congr 1
      congr 1
      generalize s.data.toList[m] = c at *
      have := c.toNat_lt
      apply UInt8.toNat_inj.1
      rw [UInt8.toNat_add, UInt8.toNat_ofNat']
      have e : (((c.toNat : Int) + 1) % 256).toNat = (c.toNat + 1) % 256 := by omega
      rw [e]
      show (c.toNat + 1) % 256 % 256 = (c.toNat + 1) % 256
      omega
theorem after_f (s : ByteArray) (hs : s.size ≤ 140737488351232) : Ev (fun k => keys_After.f k s) (endA (afterL s.data.toList)) := by
  have h := after_ev s hs s.size (Nat.le_refl _)
  rw [ext_all, List.take_of_length_le (by rw [Array.length_toList]; exact Nat.le_refl _)] at h
  exact h
theorem starts_f (a b : ByteArray) : musterref01_Starts.f a b = some (decide (b.data.toList <+: a.data.toList)) := by
  unfold musterref01_Starts.f
  by_cases h : (a.size : Int) ≥ (b.size : Int)
  · rw [if_pos h, if_pos (by omega), if_pos (by omega), Int.toNat_natCast]
    congr 1
    rw [Lib.toList_data, Lib.toList_data, ByteArray.data_extract, Bool.eq_iff_iff, beq_iff_eq, decide_eq_true_eq, List.prefix_iff_eq_take, Array.toList_extract, Array.length_toList]
    simp only [List.extract_eq_take_drop, Nat.sub_zero, List.drop_zero]
    exact eq_comm
  · rw [if_neg h]
    congr 1
    symm
    rw [decide_eq_false_iff_not]
    intro hp
    have := hp.length_le
    rw [Array.length_toList, Array.length_toList] at this
    exact h (by show (b.data.size : Int) ≤ (a.data.size : Int); omega)

theorem KeysAfter : musterlaw01_KeysAfter.Pure := by
  intro p o hp ho
  refine Ev.rounds (g := fun k => musterlaw01_KeysAfter.f k p o) ?_
  unfold musterlaw01_KeysAfter.f
  refine Ev.bind (after_f _ (by decide)) ?_
  have e0 : endA (afterL (⟨#[97, 98, 255]⟩ : ByteArray).data.toList) = (⟨#[97, 99]⟩, true) := by decide
  simp only [e0]
  refine Ev.congr (f := fun n => musterlaw01_KeysAfter.j0 n p o (!true)) (fun n => by rw [if_pos (by rw [Lib.toList_data])]) ?_
  have href : musterref01_After.f p = some (endA (afterL p.data.toList)) := by
    unfold musterref01_After.f
    rw [if_pos hp, ref_after p p.size (by rw [Array.length_toList]; exact Nat.le_refl _), List.take_of_length_le (by rw [Array.length_toList]; exact Nat.le_refl _)]
  refine Ev.step (f := fun k => (keys_After.f k p).bind fun bt105 => musterlaw01_KeysAfter.j1 k p o bt105.1 bt105.2 (decide (¬ (bt105 = endA (afterL p.data.toList))))) (fun k => ?_) ?_
  · simp only [musterlaw01_KeysAfter.j0]
    rw [if_neg (by decide), href, Option.bind_some]
    congr 1
    funext x
    by_cases h1 : x.1.toList = (endA (afterL p.data.toList)).1.toList
    · rw [if_pos h1]
      congr 1
      have h1' : x.1 = (endA (afterL p.data.toList)).1 := by
        rw [Lib.toList_data, Lib.toList_data] at h1
        exact ByteArray.ext (Array.toList_inj.1 h1)
      rw [Bool.eq_iff_iff]
      simp only [bne_iff_ne, decide_eq_true_eq, ne_eq]
      constructor
      · intro h e; exact h (by rw [e])
      · intro h e; exact h (Prod.ext h1' e)
    · rw [if_neg h1]
      congr 1
      symm
      rw [decide_eq_true_eq]
      intro e
      exact h1 (by rw [e])
  · refine Ev.bind (after_f p hp) ?_
    have hd : decide (¬ (endA (afterL p.data.toList) = endA (afterL p.data.toList))) = false := by simp
    simp only [hd]
    refine Ev.step (f := fun _ => some true) (fun k => ?_) (Ev.now _)
    simp only [musterlaw01_KeysAfter.j1]
    rw [if_neg (by decide), starts_f, Option.bind_some]
    simp only [Lib.toList_data]
    cases hA : afterL p.data.toList with
    | none =>
      simp only [endA]
      by_cases hpre : p.data.toList <+: o.data.toList
      · simp [hpre]
      · simp only [hpre, decide_false, Bool.false_eq_true, if_false]
        cases hl : Op.bytesLess o.data.toList p.data.toList with
        | true => simp
        | false => exact absurd (none_begins _ _ hA hl) hpre
    | some a =>
      simp only [endA]
      by_cases hpre : p.data.toList <+: o.data.toList
      · obtain ⟨x, hx⟩ := hpre
        have := after_gt _ _ x hA
        rw [hx] at this
        have hpre : p.data.toList <+: o.data.toList := ⟨x, hx⟩
        simp [hpre, this]
      · simp only [hpre, decide_false, Bool.false_eq_true, if_false, if_true]
        cases hl : Op.bytesLess o.data.toList p.data.toList with
        | true => simp
        | false =>
          simp only [Bool.false_eq_true, if_false, Option.some.injEq, Bool.not_eq_true']
          cases hg : Op.bytesLess o.data.toList a with
          | false => rfl
          | true => exact absurd (after_begins _ _ _ hA hl hg) hpre

end Go.Proofs.Ytjkljhcfbgcgoaa.Pure
