/- KeysOrder, plainly: the bytes stand in the order that Compare tells. -/
import Derived.Test.YtjkljhcfbgcgoaaM7
import Derived.Test.YtjkljhcfbgcgoaaQ3
import Derived.Test.YtjkljhcfbgcgoaaQ8
set_option linter.unusedVariables false
set_option linter.unusedSimpArgs false
namespace Go.Proofs.Ytjkljhcfbgcgoaa.Q
open Go.RowKit Go.Proofs.Ytjkljhcfbgcgoaa.K Go.Proofs.YtjkljhcfbgcgoaaW.PrintWords Go.Proofs.YtjkljhcfbgcgoaaW.PrintLast

def valL : List UInt8 → Nat
  | [] => 0
  | b :: r => b.toNat * 256 ^ r.length + valL r
theorem valL_lt (l : List UInt8) : valL l < 256 ^ l.length := by
  induction l with
  | nil => simp [valL]
  | cons b r ih =>
    simp only [valL, List.length_cons, Nat.pow_succ]
    have hb := b.toNat_lt
    have : b.toNat * 256 ^ r.length + 256 ^ r.length ≤ 256 ^ r.length * 256 := by
      calc b.toNat * 256 ^ r.length + 256 ^ r.length = (b.toNat + 1) * 256 ^ r.length := by rw [Nat.succ_mul]
        _ ≤ 256 * 256 ^ r.length := Nat.mul_le_mul_right _ (by omega)
        _ = 256 ^ r.length * 256 := Nat.mul_comm _ _
    omega
theorem num8_val (l : List UInt8) : num8 l = (valL l : Int) := by
  have key : ∀ (l : List UInt8) (acc : Int), l.foldl (fun a b => a * 256 + (b.toNat : Int)) acc = acc * 256 ^ l.length + (valL l : Int) := by
    intro l
    induction l with
    | nil => intro acc; simp [valL]
    | cons b r ih =>
      intro acc
      rw [List.foldl_cons, ih]
      have e : ((valL (b :: r) : Nat) : Int) = (b.toNat : Int) * 256 ^ r.length + (valL r : Int) := by
        simp only [valL]
        rw [Int.natCast_add, Int.natCast_mul, Int.natCast_pow]
        rfl
      rw [e, List.length_cons, Int.pow_succ]
      generalize (256 : Int) ^ r.length = P
      rw [Int.add_mul, Int.mul_assoc, Int.mul_comm (256 : Int) P]
      omega
  have := key l 0
  rw [Int.zero_mul, Int.zero_add] at this
  exact this
theorem be_less : ∀ (l m x y : List UInt8), l.length = m.length → l ≠ m → Op.bytesLess (l ++ x) (m ++ y) = decide (valL l < valL m)
  | [], [], _, _, _, h => absurd rfl h
  | [], _ :: _, _, _, h, _ => by simp at h
  | _ :: _, [], _, _, h, _ => by simp at h
  | a :: l, b :: m, x, y, hl, hne => by
    have hlen : l.length = m.length := by simpa using hl
    rw [List.cons_append, List.cons_append, less_cons]
    simp only [valL, hlen]
    have h1 := valL_lt l
    have h2 := valL_lt m
    rw [hlen] at h1
    rcases u8_tri a b with h | rfl | h
    · obtain ⟨e1, e2, e3⟩ := u8_asym a b h
      have h3 : (a.toNat + 1) * 256 ^ m.length ≤ b.toNat * 256 ^ m.length := Nat.mul_le_mul_right _ (UInt8.lt_iff_toNat_lt.1 h)
      rw [Nat.succ_mul] at h3
      have : a.toNat * 256 ^ m.length + valL l < b.toNat * 256 ^ m.length + valL m := by omega
      simp [h, this]
    · have hn : ¬ a < a := by rw [UInt8.lt_iff_toNat_lt]; omega
      have hne2 : l ≠ m := fun e => hne (by rw [e])
      rw [be_less l m x y hlen hne2]
      simp [hn]
    · obtain ⟨e1, e2, e3⟩ := u8_asym b a h
      have h3 : (b.toNat + 1) * 256 ^ m.length ≤ a.toNat * 256 ^ m.length := Nat.mul_le_mul_right _ (UInt8.lt_iff_toNat_lt.1 h)
      rw [Nat.succ_mul] at h3
      have : ¬ a.toNat * 256 ^ m.length + valL l < b.toNat * 256 ^ m.length + valL m := by omega
      have e4 : (a == b) = false := by simpa using e3
      simp [e1, e4, this]
theorem esc_less : ∀ (s t x y : List UInt8), s ≠ t → Op.bytesLess (escB s ++ 0 :: 1 :: x) (escB t ++ 0 :: 1 :: y) = Op.bytesLess s t
  | [], [], _, _, h => absurd rfl h
  | [], b :: t, x, y, _ => by
    by_cases hb : b = 0
    · subst hb; simp only [escB, if_true, List.nil_append, List.cons_append, less_cons]; rfl
    · have : (0 : UInt8) < b := by
        rw [UInt8.lt_iff_toNat_lt]
        have : b.toNat ≠ 0 := fun e => hb (UInt8.toNat_inj.1 e)
        show 0 < b.toNat
        omega
      simp only [escB, if_neg hb, List.nil_append, List.cons_append, less_cons]
      rw [decide_eq_true this]; rfl
  | a :: s, [], x, y, _ => by
    by_cases ha : a = 0
    · subst ha; simp only [escB, if_true, List.nil_append, List.cons_append, less_cons]; rfl
    · have h1 : ¬ a < 0 := by
        rw [UInt8.lt_iff_toNat_lt]
        show ¬ a.toNat < 0
        omega
      simp only [escB, if_neg ha, List.nil_append, List.cons_append, less_cons]
      have h2 : (a == 0) = false := by simpa using ha
      rw [decide_eq_false h1, h2]; rfl
  | a :: s, b :: t, x, y, h => by
    by_cases hab : a = b
    · subst hab
      have hn : ¬ a < a := by rw [UInt8.lt_iff_toNat_lt]; omega
      simp only [escB, List.append_assoc]
      rw [less_pre, esc_less s t x y (fun e => h (by rw [e])), less_cons]
      simp [hn]
    · by_cases ha : a = 0
      · subst ha
        have hb : ¬ b = 0 := fun e => hab e.symm
        have h0 : ¬ (0 : UInt8) = b := hab
        have hlt : (0 : UInt8) < b := by
          rw [UInt8.lt_iff_toNat_lt]
          have : b.toNat ≠ 0 := fun e => hb (UInt8.toNat_inj.1 e)
          show 0 < b.toNat
          omega
        simp only [escB, if_true, if_neg hb, List.nil_append, List.cons_append, less_cons]
        rw [decide_eq_true hlt, Bool.true_or, Bool.true_or]
      · by_cases hb : b = 0
        · subst hb
          have h1 : ¬ a < 0 := by
            rw [UInt8.lt_iff_toNat_lt]
            show ¬ a.toNat < 0
            omega
          have h2 : (a == 0) = false := by simpa using ha
          simp only [escB, if_true, if_neg ha, List.nil_append, List.cons_append, less_cons]
          rw [decide_eq_false h1, h2, Bool.false_and, Bool.false_and]
        · have h2 : (a == b) = false := by simpa using hab
          simp only [escB, if_neg ha, if_neg hb, List.nil_append, List.cons_append, less_cons]
          rw [h2, Bool.false_and, Bool.false_and]
theorem pc_kind (p : S36) (h : kvalid p = true) : ∃ r, pcB p false = UInt8.ofNat p.f0.toNat :: r := by
  rcases kind_of p h with e | e | e
  · exact ⟨escB p.f1.data.toList ++ [0, 1], by simp [pcB, e]⟩
  · exact ⟨beU p.f2, by simp [pcB, e]⟩
  · exact ⟨[UInt8.ofNat (p.f2 % 256).toNat], by simp [pcB, e]⟩
theorem cmp_same (p : S36) (ps qs : List S36) : cmpL (p :: ps) (p :: qs) = cmpL ps qs := by
  simp only [cmpL]; rw [if_pos ((sameP_iff p p).2 rfl)]
theorem cmp_diff (p q : S36) (ps qs : List S36) (h : p ≠ q) : cmpL (p :: ps) (q :: qs) = partC p q := by
  simp only [cmpL]; rw [if_neg (fun e => h ((sameP_iff _ _).1 e))]
theorem pc_less (p q : S36) (x y : List UInt8) (hp : kvalid p = true) (hpw : wfP p) (hq : kvalid q = true) (hqw : wfP q) (h : p ≠ q) :
    Op.bytesLess (pcB p false ++ x) (pcB q false ++ y) = lessP p q := by
  by_cases h0 : p.f0 = q.f0
  · rcases kind_of p hp with h1 | h1 | h1
    · have h2 := (kvalid_text p hp h1).trans (kvalid_text q hq (by omega)).symm
      have hq1 : q.f0 = 1 := by omega
      have ht : p.f1 ≠ q.f1 := fun e => h (by cases p; cases q; simp_all)
      have ht2 := txt_ne _ _ ht
      have e1 : ∀ (r : S36) (z : List UInt8), r.f0 = 1 → pcB r false ++ z = 1 :: (escB r.f1.data.toList ++ 0 :: 1 :: z) := by
        intro r z hr; simp [pcB, hr]
      rw [e1 p x h1, e1 q y hq1, less_cons]
      rw [Lib.toList_data, Lib.toList_data] at ht2
      rw [esc_less _ _ _ _ ht2]
      simp [lessP, h0, h2, Lib.toList_data]
    · have hq1 : q.f0 = 2 := by omega
      have h2 := (kvalid_num p hp h1).trans (kvalid_num q hq hq1).symm
      have hn : p.f2 ≠ q.f2 := fun e => h (by cases p; cases q; simp_all)
      have e1 : ∀ (r : S36) (z : List UInt8), r.f0 = 2 → pcB r false ++ z = 2 :: (beU r.f2 ++ z) := by
        intro r z hr; simp [pcB, hr]
      have v1 := num8_be p.f2 hpw.1 hpw.2
      have v2 := num8_be q.f2 hqw.1 hqw.2
      have hne : beU p.f2 ≠ beU q.f2 := fun e => hn (by rw [← v1, ← v2, e])
      rw [e1 p x h1, e1 q y hq1, less_cons, be_less _ _ _ _ (by simp [beU]) hne]
      rw [num8_val] at v1 v2
      have e3 : decide (valL (beU p.f2) < valL (beU q.f2)) = decide (p.f2 < q.f2) := decide_eq_decide.2 (by omega)
      rw [e3]
      simp [lessP, h0, h2, less_irrefl]
    · have hq1 : q.f0 = 3 := by omega
      obtain ⟨p1, p2⟩ := kvalid_flag p hp h1
      obtain ⟨q1, q2⟩ := kvalid_flag q hq hq1
      have h2 := p1.trans q1.symm
      have hn : p.f2 ≠ q.f2 := fun e => h (by cases p; cases q; simp_all)
      have e1 : ∀ (r : S36) (z : List UInt8), r.f0 = 3 → pcB r false ++ z = 3 :: UInt8.ofNat (r.f2 % 256).toNat :: z := by
        intro r z hr; simp [pcB, hr]
      have pw := hpw.1
      have qw := hqw.1
      rw [e1 p x h1, e1 q y hq1, less_cons, less_cons]
      simp only [lessP, h0, h2, less_irrefl]
      have c : (p.f2 = 0 ∧ q.f2 = 1) ∨ (p.f2 = 1 ∧ q.f2 = 0) := by omega
      rcases c with ⟨c1, c2⟩ | ⟨c1, c2⟩ <;> rw [c1, c2] <;> simp
  · obtain ⟨r, hr⟩ := pc_kind p hp
    obtain ⟨s, hs⟩ := pc_kind q hq
    rw [hr, hs, List.cons_append, List.cons_append, less_cons]
    simp only [lessP]
    rcases kind_of p hp with h1 | h1 | h1 <;> rcases kind_of q hq with h2 | h2 | h2 <;> first | (exfalso; omega) | (rw [h1, h2]; simp)
theorem enc_less : ∀ a b : List S36, Good a → Good b → Op.bytesLess (enc a) (enc b) = decide (cmpL a b < 0)
  | [], [], _, _ => rfl
  | [], q :: qs, _, hb => by
    obtain ⟨r, hr⟩ := pc_kind q hb.head.1
    rw [enc_cons, hr]
    rfl
  | p :: ps, [], ha, _ => by
    obtain ⟨r, hr⟩ := pc_kind p ha.head.1
    rw [enc_cons, hr]
    rfl
  | p :: ps, q :: qs, ha, hb => by
    obtain ⟨a1, a2, a3⟩ := ha.head
    obtain ⟨b1, b2, b3⟩ := hb.head
    rw [enc_cons, enc_cons]
    by_cases h : p = q
    · subst h
      rw [less_pre, enc_less ps qs a3 b3, cmp_same]
    · rw [pc_less p q _ _ a1 a2 b1 b2 h, cmp_diff p q ps qs h]
      rcases part_cases p q a1 b1 h with ⟨e1, e2, _⟩ | ⟨e1, e2, _⟩ <;> rw [e1, e2] <;> rfl
theorem cmp_zero : ∀ a b : List S36, Good a → Good b → (cmpL a b = 0 ↔ a = b)
  | [], [], _, _ => by simp [cmpL]
  | [], _ :: _, _, _ => by simp [cmpL]
  | _ :: _, [], _, _ => by simp [cmpL]
  | p :: ps, q :: qs, ha, hb => by
    obtain ⟨a1, a2, a3⟩ := ha.head
    obtain ⟨b1, b2, b3⟩ := hb.head
    simp only [cmpL]
    by_cases h : p = q
    · subst h
      rw [if_pos ((sameP_iff p p).2 rfl), cmp_zero ps qs a3 b3]
      simp
    · rw [if_neg (fun e => h ((sameP_iff _ _).1 e))]
      rcases part_cases p q a1 b1 h with ⟨_, e2, _⟩ | ⟨_, e2, _⟩ <;> rw [e2] <;> simp [h]
theorem j0_true (k : Nat) (a b : List S36) (s t : ByteArray) : musterlaw01_KeysOrder.j0 (k + 1) a b s t true = some true := by
  simp [musterlaw01_KeysOrder.j0]
theorem Order (a b : List S36) (hwa : ∀ p ∈ a, wfP p) (hwb : ∀ p ∈ b, wfP p) (hb : R.wt a + R.wt b ≤ 1048576) : ∃ k, musterlaw01_KeysOrder.f k a b = some true := by
  have la := R.wt_length a
  have lb := R.wt_length b
  have ea := R.enc_le a false
  have eb := R.enc_le b false
  refine Ev.rounds (g := fun k => musterlaw01_KeysOrder.f k a b) ?_
  unfold musterlaw01_KeysOrder.f
  refine Ev.bind fixed_ev ?_
  simp only [↓reduceIte]
  refine Ev.bind (copied_ev a (by omega)) ?_
  refine Ev.bind (Ev.const (encode_f a (fun _ => by omega))) ?_
  refine Ev.bind (copied_ev b (by omega)) ?_
  refine Ev.bind (Ev.const (encode_f b (fun _ => by omega))) ?_
  by_cases h1 : (encR a false).2 = 0
  · by_cases h2 : (encR b false).2 = 0
    · obtain ⟨va, _, ra⟩ := encR_snd a h1
      obtain ⟨vb, _, rb⟩ := encR_snd b h2
      have ga : Good a := ⟨va, hwa⟩
      have gb : Good b := ⟨vb, hwb⟩
      have hcmp : cmpR a b = (cmpL a b, 0) := by unfold cmpR; rw [va, vb]; rfl
      rw [ra, rb]
      simp only [↓reduceIte, bne_self_eq_false]
      refine Ev.step (f := fun k => (musterlaw01_copied.f k a).bind fun t288 => ((musterlaw01_copied.f k b).bind fun t291 => ((keys_Compare.f k t288 t291).bind fun bt294 => (if bt294.2 = 0 then (if ((decide (bt294.1 < 0)) == (Op.bytesLess (⟨(enc a).toArray⟩ : ByteArray).toList (⟨(enc b).toArray⟩ : ByteArray).toList)) = true then (if ((bt294.1 == 0) == ((⟨(enc a).toArray⟩ : ByteArray).toList == (⟨(enc b).toArray⟩ : ByteArray).toList)) = true then ((musterref01_SameParts.f k a b).bind fun t296 => (some ((bt294.1 == 0) == t296))) else (some false)) else (some false)) else (some false))))) (fun k => ?_) ?_
      · simp only [musterlaw01_KeysOrder.j0]
        rw [if_neg (by simp)]
      · refine Ev.bind (copied_ev a (by omega)) ?_
        refine Ev.bind (copied_ev b (by omega)) ?_
        refine Ev.bind (compare_ev a b (by omega)) ?_
        rw [hcmp]
        have e1 : (⟨(enc a).toArray⟩ : ByteArray).toList = enc a := by rw [Lib.toList_data]
        have e2 : (⟨(enc b).toArray⟩ : ByteArray).toList = enc b := by rw [Lib.toList_data]
        rw [e1, e2, enc_less a b ga gb]
        have hz := cmp_zero a b ga gb
        have e3 : ((cmpL a b == 0) == (enc a == enc b)) = true := by
          rw [beq_iff_eq, Bool.eq_iff_iff, beq_iff_eq, beq_iff_eq, hz]
          exact ⟨fun e => by rw [e], fun e => enc_inj a b ga gb e⟩
        have e4 : ((cmpL a b == 0) == sameL a b) = true := by
          rw [beq_iff_eq, Bool.eq_iff_iff, beq_iff_eq, hz, sameL_iff]
        simp only [↓reduceIte, beq_self_eq_true, e3]
        refine Ev.bind (same_ev a b (by omega)) ?_
        rw [e4]
        exact Ev.now _
    · simp only [h1, ↓reduceIte]
      refine Ev.step (f := fun k => some true) (fun k => ?_) (Ev.now _)
      have : ((encR b false).2 != 0) = true := by simpa using h2
      rw [this, j0_true]
  · simp only [h1, ↓reduceIte]
    exact Ev.step (f := fun k => some true) (fun k => j0_true k _ _ _ _) (Ev.now _)
end Go.Proofs.Ytjkljhcfbgcgoaa.Q
