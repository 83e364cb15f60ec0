/- KeysUnder, plainly: the keys that begin with a Begin. -/
import Derived.Test.YtjkljhcfbgcgoaaM0
import Derived.Test.YtjkljhcfbgcgoaaUnder
import Derived.Test.YtjkljhcfbgcgoaaQ3
import Derived.Test.YtjkljhcfbgcgoaaQ5
set_option linter.unusedVariables false
set_option linter.unusedSimpArgs false
namespace Go.Proofs.Ytjkljhcfbgcgoaa.Q
open Go.RowKit Go.Proofs.Ytjkljhcfbgcgoaa.K Go.Proofs.YtjkljhcfbgcgoaaW.PrintWords Go.Proofs.YtjkljhcfbgcgoaaW.PrintLast
attribute [local irreducible] musterlaw01_KeysUnder.j0 musterlaw01_KeysUnder.j1

def st (x y : ByteArray) : Bool := decide (y.data.toList <+: x.data.toList)
theorem starts_f (x y : ByteArray) : musterref01_Starts.f x y = some (st x y) := by
  unfold musterref01_Starts.f st
  by_cases h : y.size ≤ x.size
  · rw [if_pos (by omega), if_pos (by omega), if_pos (by omega)]
    congr 1
    rw [Bool.eq_iff_iff, beq_iff_eq, decide_eq_true_eq, Lib.toList_data, Lib.toList_data, List.prefix_iff_eq_take]
    have e : (x.extract 0 ((y.size : Int) : Int).toNat).data.toList = x.data.toList.take y.data.toList.length := by
      rw [ByteArray.data_extract, Array.toList_extract, List.extract_eq_take_drop, List.drop_zero, ← size_list]
      congr 1
    rw [e]
    exact eq_comm
  · rw [if_neg (by omega)]
    congr 1
    symm
    rw [decide_eq_false_iff_not]
    intro hp
    have := hp.length_le
    rw [← size_list, ← size_list] at this
    omega
theorem esc_append (s t : List UInt8) : escB (s ++ t) = escB s ++ escB t := by
  induction s with
  | nil => rfl
  | cons b s ih => simp only [List.cons_append, escB, ih, List.append_assoc]
theorem esc_prefix : ∀ (t s x : List UInt8), escB t <+: escB s ++ 0 :: 1 :: x ↔ t <+: s
  | [], s, x => by simp [escB]
  | b :: t, [], x => by
    by_cases hb : b = 0
    · subst hb
      simp [escB]
    · simp [escB, hb]
  | b :: t, c :: s, x => by
    by_cases hbc : b = c
    · subst hbc
      simp only [escB, List.append_assoc]
      rw [List.prefix_append_right_inj, esc_prefix t s x, List.cons_prefix_cons]
      simp
    · have hr : ¬ (b :: t <+: c :: s) := by rw [List.cons_prefix_cons]; exact fun h => hbc h.1
      by_cases hb : b = 0
      · subst hb
        have hc : ¬ c = 0 := fun e => hbc e.symm
        simp [escB, hc, hr, hbc]
      · by_cases hc : c = 0
        · subst hc
          simp [escB, hb, hr]
        · simp [escB, hb, hc, hbc, hr]
/-- which lists of parts begin with q and then a text beginning with t -/
def begin1 (q : List S36) (t : List UInt8) (rest : List S36) : Bool :=
  match rest.drop q.length with
    | [] => false
    | r :: _ => sameL (rest.take q.length) q && (r.f0 == 1 && decide (t <+: r.f1.data.toList))
theorem begin_iff : ∀ (q rest : List S36) (t : List UInt8), Good q → Good rest → ((enc q ++ 1 :: escB t) <+: enc rest ↔ begin1 q t rest = true)
  | [], [], t, _, _ => by simp [begin1, enc, encB]
  | [], r :: rs, t, _, hr => by
    have e1 : begin1 [] t (r :: rs) = (r.f0 == 1 && decide (t <+: r.f1.data.toList)) := by simp [begin1, sameL]
    rw [e1, enc_cons]
    rcases kind_of r hr.head.1 with h | h | h
    · have e2 : pcB r false ++ enc rs = 1 :: (escB r.f1.data.toList ++ 0 :: 1 :: enc rs) := by simp [pcB, h]
      have e3 : enc [] ++ 1 :: escB t = 1 :: escB t := rfl
      rw [e2, e3, List.cons_prefix_cons, esc_prefix, h]
      simp
    · have e2 : pcB r false ++ enc rs = 2 :: (beU r.f2 ++ enc rs) := by simp [pcB, h]
      have e3 : enc [] ++ 1 :: escB t = 1 :: escB t := rfl
      rw [e2, e3, List.cons_prefix_cons, h]
      simp
    · have e2 : pcB r false ++ enc rs = 3 :: ([UInt8.ofNat (r.f2 % 256).toNat] ++ enc rs) := by simp [pcB, h]
      have e3 : enc [] ++ 1 :: escB t = 1 :: escB t := rfl
      rw [e2, e3, List.cons_prefix_cons, h]
      simp
  | p :: q, [], t, hq, _ => by
    have e1 : begin1 (p :: q) t [] = false := by simp [begin1]
    rw [e1, enc_cons]
    have hp := pc_pos p false
    constructor
    · intro h
      have := h.length_le
      simp only [List.length_append] at this
      have e0 : (enc []).length = 0 := rfl
      omega
    · intro h; simp at h
  | p :: q, r :: rs, t, hq, hr => by
    obtain ⟨p1, p2, p3⟩ := hq.head
    obtain ⟨r1, r2, r3⟩ := hr.head
    have ih := begin_iff q rs t p3 r3
    rw [enc_cons, enc_cons]
    by_cases hpr : p = r
    · subst hpr
      rw [List.append_assoc, List.prefix_append_right_inj, ih]
      have hs : sameP p p = true := (sameP_iff p p).2 rfl
      simp [begin1, sameL, hs]
    · constructor
      · rintro ⟨z, hz⟩
        rw [List.append_assoc, List.append_assoc] at hz
        exact absurd (pc_inj p r _ _ p1 p2 r1 r2 hz).1 hpr
      · intro h
        exfalso
        have hs : sameP r p = false := by rw [Bool.eq_false_iff]; exact fun e => hpr ((sameP_iff _ _).1 e).symm
        simp only [begin1, List.length_cons, List.drop_succ_cons, List.take_succ_cons, sameL, hs, Bool.false_and] at h
        split at h <;> simp at h
theorem under_j1 (q rest : List S36) (p : S36) (b kk m : ByteArray) (hl : q.length < 4000000) (hr : rest.length < 4000000) (hA : st kk b = true) (hB : st m b = begin1 q p.f1.data.toList rest) :
    Ev (fun k => musterlaw01_KeysUnder.j1 k (q ++ [p]) rest (q.length : Int) b kk m false) true := by
  have hlast : q.length < (q ++ [p]).length := by simp
  have htk : (q ++ [p]).take q.length = q := by simp
  have hrd : rd_T36 (q ++ [p]) (q.length : Int) = p := by rw [rd_at _ _ hlast]; simp
  by_cases h : q.length < rest.length
  · have hrr := rd_at rest q.length h
    have hd := List.drop_eq_getElem_cons h
    generalize rest[q.length] = r at hrr hd
    have hbg : begin1 q p.f1.data.toList rest = (sameL (rest.take q.length) q && (r.f0 == 1 && st r.f1 p.f1)) := by
      unfold begin1; rw [hd]; rfl
    rw [hbg] at hB
    refine Ev.step (f := fun k => (musterref01_SameParts.f k (rest.take q.length) q).bind fun t151 => (if t151 = true then (if r.f0 = 1 then some (st m b == st r.f1 p.f1) else some (st m b == false)) else some (st m b == false))) (fun k => ?_) ?_
    · simp only [musterlaw01_KeysUnder.j1]
      rw [if_neg (by simp), if_pos (by omega), if_pos (by omega), if_pos (by omega), if_pos (by omega), Int.toNat_natCast, htk, hrr, hrd]
      simp only [starts_f, hA, Option.bind_some, ↓reduceIte]
      congr 1
      funext t
      rw [if_pos (show (q.length : Int) < (rest.length : Int) by omega), if_pos (show (q.length : Int) < ((q ++ [p]).length : Int) by omega)]
    · refine Ev.bind (same_ev _ _ (by rw [List.length_take]; omega)) ?_
      rw [hB]
      cases hs : sameL (rest.take q.length) q with
      | true =>
        by_cases h1 : r.f0 = 1
        · simp only [h1, ↓reduceIte, beq_self_eq_true, Bool.true_and]
          exact Ev.now _
        · have h2 : (r.f0 == 1) = false := by simpa using h1
          simp only [h1, h2, ↓reduceIte, Bool.true_and, Bool.false_and, beq_self_eq_true]
          exact Ev.now _
      | false =>
        simp only [Bool.false_and, beq_self_eq_true, Bool.false_eq_true, ↓reduceIte]
        exact Ev.now _
  · have hbg : begin1 q p.f1.data.toList rest = false := by
      unfold begin1; rw [List.drop_eq_nil_of_le (show rest.length ≤ q.length by omega)]
    rw [hbg] at hB
    refine Ev.step (f := fun k => some true) (fun k => ?_) (Ev.now _)
    simp only [musterlaw01_KeysUnder.j1]
    rw [if_neg (by simp), if_neg (by omega)]
    simp only [starts_f, hA, hB, Option.bind_some, ↓reduceIte, beq_self_eq_true]
theorem encB_snoc (q : List S36) (p : S36) : encB (q ++ [p]) true = enc q ++ pcB p true := by
  induction q with
  | nil => simp [encB, enc]
  | cons r q ih =>
    rw [List.cons_append, encB, ih, enc_cons]
    have : (q ++ [p]).isEmpty = false := by simp
    rw [this, List.append_assoc]
    rfl
theorem enc_append (a b : List S36) : enc (a ++ b) = enc a ++ enc b := by
  induction a with
  | nil => rfl
  | cons p a ih => rw [List.cons_append, enc_cons, enc_cons, ih, List.append_assoc]
theorem wt_append (a b : List S36) : R.wt (a ++ b) = R.wt a + R.wt b := by
  induction a with
  | nil => simp [R.wt]
  | cons p a ih => simp only [List.cons_append, R.wt, ih]; omega
theorem begR (l : List S36) (h : (encR l true).2 = 0) : l.all kvalid = true ∧ encR l true = (⟨(encB l true).toArray⟩, 0) := by
  unfold encR at h ⊢
  by_cases hv : l.all kvalid = true
  · rw [if_pos hv] at h ⊢
    by_cases hl : (encB l true).length > 1024
    · rw [if_pos hl] at h; simp at h
    · rw [if_neg hl]
      exact ⟨hv, rfl⟩
  · rw [if_neg hv] at h; simp at h
theorem j1_true (k : Nat) (x0 x1 : List S36) (x7 : Int) (a b c : ByteArray) : musterlaw01_KeysUnder.j1 (k + 1) x0 x1 x7 a b c true = some true := by
  simp [musterlaw01_KeysUnder.j1]
theorem j0_true1 (k : Nat) (x0 x1 : List S36) (x7 : Int) (a : ByteArray) : musterlaw01_KeysUnder.j0 (k + 1) x0 x1 a x7 true = some true := by
  simp [musterlaw01_KeysUnder.j0]
theorem app_size (a b : ByteArray) : (a ++ b).size = a.size + b.size := by
  rw [size_list, size_list, size_list, ByteArray.data_append]
  simp
theorem Under (l rest : List S36) (more : ByteArray) (hw : ∀ p ∈ l, wfP p) (hwr : ∀ p ∈ rest, wfP p) (hb : R.wt l + R.wt rest + more.size ≤ 1048576) : ∃ k, musterlaw01_KeysUnder.f k l rest more = some true := by
  refine Ev.rounds (g := fun k => musterlaw01_KeysUnder.f k l rest more) ?_
  unfold musterlaw01_KeysUnder.f
  refine Ev.bind fixed_ev ?_
  simp only [↓reduceIte]
  have hwl := R.wt_length l
  have hwrl := R.wt_length rest
  have hwrap : wrap64 ((l.length : Int) - 1) = (l.length : Int) - 1 := by unfold wrap64; omega
  rw [hwrap]
  rcases List.eq_nil_or_concat l with rfl | ⟨q, p, rfl⟩
  · refine Ev.congr (f := fun k => musterlaw01_KeysUnder.j0 k [] rest more (-1) true) (fun k => by simp) ?_
    exact Ev.step (f := fun k => some true) (fun k => j0_true1 k _ _ _ _) (Ev.now _)
  · rw [List.concat_eq_append] at *
    have hlen : (q ++ [p]).length = q.length + 1 := by simp
    have hlast : q.length < (q ++ [p]).length := by simp
    have hrd : rd_T36 (q ++ [p]) (q.length : Int) = p := by rw [rd_at _ _ hlast]; simp
    have e7 : ((q ++ [p]).length : Int) - 1 = (q.length : Int) := by omega
    rw [e7]
    clear hwrap
    refine Ev.congr (f := fun k => musterlaw01_KeysUnder.j0 k (q ++ [p]) rest more (q.length : Int) (p.f0 != 1)) (fun k => by rw [if_neg (by omega), if_pos (by omega), if_pos (by omega), hrd]) ?_
    by_cases h1 : p.f0 = 1
    · have hx : (p.f0 != 1) = false := by simp [h1]
      rw [hx]
      have hwt := wt_append q [p]
      have hwt1 : R.wt [p] = p.f1.size + 4 := by simp [R.wt]
      have hps : (p.f1 ++ more).size = p.f1.size + more.size := app_size _ _
      have ea := R.enc_le (q ++ [p]) true
      have ec := R.enc_le rest false
      have hset : (q ++ [p]).set q.length ⟨p.f0, p.f1 ++ more, p.f2⟩ = q ++ [⟨p.f0, p.f1 ++ more, p.f2⟩] := by simp
      have hwt2 := wt_append (q ++ [(⟨p.f0, p.f1 ++ more, p.f2⟩ : S36)]) rest
      have hwt3 := wt_append q [(⟨p.f0, p.f1 ++ more, p.f2⟩ : S36)]
      have hwt4 : R.wt [(⟨p.f0, p.f1 ++ more, p.f2⟩ : S36)] = p.f1.size + more.size + 4 := by simp [R.wt, hps]
      have eb := R.enc_le ((q ++ [(⟨p.f0, p.f1 ++ more, p.f2⟩ : S36)]) ++ rest) false
      refine Ev.step (f := fun k => (musterlaw01_copied.f k (q ++ [p])).bind fun t123 => ((keys_Begin.f t123).bind fun bt126 => ((musterlaw01_copied.f k (q ++ [p])).bind fun t128 => (if 0 ≤ (q.length : Int) then (if (q.length : Int) < (t128.length : Int) then (if ((rd_T36 t128 (q.length : Int)).f1).size + more.size ≤ 9223372036854775807 then ((some (t128.set ((q.length : Int) : Int).toNat (⟨(rd_T36 t128 (q.length : Int)).f0, ((rd_T36 t128 (q.length : Int)).f1) ++ more, (rd_T36 t128 (q.length : Int)).f2⟩ : S36) : List (S36))).bind fun y132 => (if y132.length + rest.length < 4398046511104 then ((keys_Encode.f (y132 ++ rest)).bind fun bt136 => ((musterlaw01_copied.f k rest).bind fun t138 => ((keys_Encode.f t138).bind fun bt141 => (if bt126.2 = 0 then (if bt136.2 = 0 then (musterlaw01_KeysUnder.j1 k (q ++ [p]) rest (q.length : Int) bt126.1 bt136.1 bt141.1 (bt141.2 != 0)) else (musterlaw01_KeysUnder.j1 k (q ++ [p]) rest (q.length : Int) bt126.1 bt136.1 bt141.1 true)) else (musterlaw01_KeysUnder.j1 k (q ++ [p]) rest (q.length : Int) bt126.1 bt136.1 bt141.1 true))))) else (none))) else (none)) else (none)) else (none))))) (fun k => ?_) ?_
      · simp only [musterlaw01_KeysUnder.j0]
        rw [if_neg (by simp)]
      · refine Ev.bind (copied_ev _ (by omega)) ?_
        refine Ev.bind (Ev.const (begin_f _ (fun _ => by omega))) ?_
        refine Ev.bind (copied_ev _ (by omega)) ?_
        simp only [hrd, Int.toNat_natCast, hset, Option.bind_some]
        refine Ev.congr (f := fun k => (keys_Encode.f ((q ++ [(⟨p.f0, p.f1 ++ more, p.f2⟩ : S36)]) ++ rest)).bind fun bt136 => ((musterlaw01_copied.f k rest).bind fun t138 => ((keys_Encode.f t138).bind fun bt141 => (if (encR (q ++ [p]) true).2 = 0 then (if bt136.2 = 0 then (musterlaw01_KeysUnder.j1 k (q ++ [p]) rest (q.length : Int) (encR (q ++ [p]) true).1 bt136.1 bt141.1 (bt141.2 != 0)) else (musterlaw01_KeysUnder.j1 k (q ++ [p]) rest (q.length : Int) (encR (q ++ [p]) true).1 bt136.1 bt141.1 true)) else (musterlaw01_KeysUnder.j1 k (q ++ [p]) rest (q.length : Int) (encR (q ++ [p]) true).1 bt136.1 bt141.1 true))))) (fun k => ?_) ?_
        · rw [if_pos (by omega), if_pos (by omega), if_pos (by omega), if_pos (by simp; omega)]
        · refine Ev.bind (Ev.const (encode_f _ (fun _ => by omega))) ?_
          refine Ev.bind (copied_ev _ (by omega)) ?_
          refine Ev.bind (Ev.const (encode_f _ (fun _ => by omega))) ?_
          by_cases c1 : (encR (q ++ [p]) true).2 = 0
          · by_cases c2 : (encR (q ++ [(⟨p.f0, p.f1 ++ more, p.f2⟩ : S36)] ++ rest) false).2 = 0
            · by_cases c3 : (encR rest false).2 = 0
              · obtain ⟨v1, r1⟩ := begR _ c1
                obtain ⟨v2, _, r2⟩ := encR_snd _ c2
                obtain ⟨v3, _, r3⟩ := encR_snd _ c3
                simp only [r1, r2, r3, ↓reduceIte, bne_self_eq_false]
                have gq : Good q := ⟨by rw [List.all_append, Bool.and_eq_true] at v1; exact v1.1, fun x hx => hw x (by simp [hx])⟩
                have gr : Good rest := ⟨v3, hwr⟩
                have e4 : encB (q ++ [p]) true = enc q ++ 1 :: escB p.f1.data.toList := by rw [encB_snoc]; simp [pcB, h1]
                refine under_j1 q rest p _ _ _ (by omega) (by omega) ?_ ?_
                · unfold st
                  rw [decide_eq_true_eq, List.toList_toArray, List.toList_toArray, e4, enc_append, enc_append, List.append_assoc, List.prefix_append_right_inj]
                  have e5 : enc [(⟨p.f0, p.f1 ++ more, p.f2⟩ : S36)] = 1 :: (escB p.f1.data.toList ++ (escB more.data.toList ++ [0, 1])) := by
                    rw [enc_cons]
                    have : (p.f1 ++ more).data.toList = p.f1.data.toList ++ more.data.toList := by rw [ByteArray.data_append, Array.toList_append]
                    simp [pcB, h1, this, esc_append, enc, encB]
                  rw [e5, List.cons_append, List.cons_prefix_cons, List.append_assoc]
                  exact ⟨rfl, List.prefix_append _ _⟩
                · unfold st
                  rw [List.toList_toArray, List.toList_toArray, e4, Bool.eq_iff_iff, decide_eq_true_eq]
                  exact begin_iff q rest _ gq gr
              · have hx3 : ((encR rest false).2 != 0) = true := by simpa using c3
                simp only [c1, c2, hx3, ↓reduceIte]
                exact Ev.step (f := fun k => some true) (fun k => j1_true k _ _ _ _ _ _) (Ev.now _)
            · simp only [c1, c2, ↓reduceIte]
              exact Ev.step (f := fun k => some true) (fun k => j1_true k _ _ _ _ _ _) (Ev.now _)
          · simp only [c1, ↓reduceIte]
            exact Ev.step (f := fun k => some true) (fun k => j1_true k _ _ _ _ _ _) (Ev.now _)
    · have hx : (p.f0 != 1) = true := by simpa using h1
      rw [hx]
      exact Ev.step (f := fun k => some true) (fun k => j0_true1 k _ _ _ _) (Ev.now _)
end Go.Proofs.Ytjkljhcfbgcgoaa.Q
