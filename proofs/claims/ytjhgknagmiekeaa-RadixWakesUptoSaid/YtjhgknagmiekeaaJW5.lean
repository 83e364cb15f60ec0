/- joined: G19 TP13 G20 G21 TR16 TR18 G22 -/
import Derived.Test.YtjhgknagmiekeaaJW4
set_option linter.unusedVariables false
set_option linter.unusedSimpArgs false
namespace Go.Proofs.Ytjhgknagmiekeaa.T
open Go.RowKit Go.Lib Go.Proofs Go.Proofs.YtjhgknagmiekeaaW.PrintWords
set_option maxHeartbeats 4000000 in
set_option maxRecDepth 100000 in
theorem treeInsertM (w : World) (tb : Nat) (root : Nd) (size v : Int) (k : ByteArray) (h : TrAt w tb root size) (ho : Ok root) (hsm : Sm root) (hk : k.size < 4000000000000) (hs0 : 0 ≤ size) (hs1 : size < 4000000000000) :
    Calls Try.prog 43 #[ptr tb, .string k, .int .i64 v] w fun e w' => ∃ (tb' lb : Nat) (m : Value) (ns : Sup) (had : Bool) (old : Value), e = .returned (.tuple #[ptr tb', old, .bool had]) ∧ TrAt w' tb' (insN root k ⟨lb, k, .int .i64 v, m⟩ ns) (size + incr had) ∧
      (had, old) = hadOld (findN root k) ∧ w.heap.size ≤ tb' ∧ w.heap.size ≤ lb ∧ NewMark w.heap.size w' m ∧ SupOk w.heap.size w' ns ∧ (∀ j, m ≠ (ns j).2) ∧ Below w.heap.size w w' := by
  have q1 := Aside0.mk (sclone w k hk)
  have c0 : w.cell? ⟨tb, 0, none⟩ = some (.pointer (some ⟨root.b, 0, none⟩)) := by rw [blk_cell h.blk]; rfl
  have c1 : w.cell? ⟨tb, 1, none⟩ = some (.int .i64 size) := by rw [blk_cell h.blk]; rfl
  have HT := Aside0.mk h
  have HO := Aside0.mk (And.intro ho hsm)
  clear h ho hsm
  unfold ptr
  go_enter Try.func43, Try.ntmps43
  go_wp2_with (go_at_call 97; refine q1.out.mono ?_)
  rintro e w1 ⟨rfl, B1⟩
  have d0 := (Kept.of B1).cell c0
  have d1 := (Kept.of B1).cell c1
  have HB1 := Aside0.mk B1
  have h1 := HT.out.keep (Kept.of B1)
  have tf := three_facts w1 (.chan 0 #[] false 0 0 false) (.cells #[.int .u32 0, .int .i32 0, .int .u32 0, .chan (some w1.heap.size)] 154) (.cells #[.string k, .int .i64 v, .pointer (some ⟨w1.heap.size + 1, 0, none⟩)] 127)
  have q7 := Aside0.mk (insertC k.size k (Nat.le_refl _) hk root ⟨w1.heap.size + 1 + 1, k, .int .i64 v, .pointer (some ⟨w1.heap.size + 1, 0, none⟩)⟩ (leafW w1 k v).drew (leafW w1 k v).drew (fun _ _ => rfl) (Nat.le_refl _) (NdAt.keep (show Kept w1 (leafW w1 k v).drew from fun x hx => Kept.of tf.2.2.2.2 x hx) _ h1.root) HO.out.1 HO.out.2 (fun l e => by cases e; exact tf.2.2.2.1))
  have HTF := Aside0.mk tf
  clear B1 h1 tf q1
  unfold ptr at q7
  go_wp2_with fail
  go_region_held3 (fun w' => w'.cell? ⟨tb, 0, none⟩ = some (.pointer (some ⟨root.b, 0, none⟩)))
    (first | exact d0 | exact cellA d0 | exact cellA (cellA d0) | exact cellA (cellA (cellA d0)) | exact f0)
    (first
      | (go_at_call 99; refine (watchNew _).mono ?_; rintro e wz ⟨rfl, rfl⟩; unfold ptr watchObj)
      | (go_at_call 98; refine q7.out.mono ?_; rintro e w4 ⟨ns, rfl, hr, hsu, hb4⟩; have f0 := (Kept.of hb4).cell (cellA (cellA (cellA d0))); have f1 := (Kept.of hb4).cell (cellA (cellA (cellA d1))); have H4 := Aside0.mk (And.intro hr (And.intro hsu hb4)); clear hr hsu hb4))
  have hfat := findN_at w k.size k (Nat.le_refl _) root HT.out.root
  cases hfo : findN root k with
  | none =>
    rw [hfo] at hfat
    have q8 := Aside0.mk (fun W => told W none (fun l e => by cases e))
    unfold leafPtr toldV at q8
    unfold leafPtr
    have HFO := Aside0.mk hfo
    clear hfo hfat
    go_wp2_with (go_at_call 87; refine (q8.out _).mono ?_; rintro e w5 ⟨rfl, Q5⟩; have HQ5 := Aside0.mk Q5; clear Q5)
    go_ret3
    obtain ⟨hr, hsu, hb4⟩ := H4.out
    have hsw1 := HB1.out.size
    have hsl : (leafW w1 k v).heap.size = w1.heap.size + 3 := HTF.out.1
    have hsl2 : (leafW w1 k v).heap.size ≤ w4.heap.size := hb4.size
    have B4 : Below w.heap.size w w4 := (HB1.out.trans ⟨HTF.out.2.2.2.2.os, HTF.out.2.2.2.2.tape, HTF.out.2.2.2.2.output, HTF.out.2.2.2.2.size, fun x hx => HTF.out.2.2.2.2.block x (by omega)⟩).trans ⟨hb4.os, hb4.tape, hb4.output, hb4.size, fun x hx => hb4.block x (by show x < (leafW w1 k v).heap.size; omega)⟩
    have QO := HQ5.out
    have hh5 := QO.heap
    have K45 : Kept w4 w5 := (Kept.of ((Below.refl _ w4).alloc (Nat.le_refl _) _)).trans QO.kept (by simp only [World.size_alloc]; omega)
    refine ⟨w4.heap.size, w1.heap.size + 1 + 1, .pointer (some ⟨w1.heap.size + 1, 0, none⟩), ns, false, .int .i64 0, rfl, ⟨?_, ?_⟩, by rw [HFO.out]; rfl, by omega, by omega, ?_, ⟨fun j => ?_, fun j => ?_⟩, (fun j e => by
      obtain ⟨c, e1, e2, _, _⟩ := hsu.mark j
      have h2 : (leafW w1 k v).heap.size ≤ c := e2
      rw [e1] at e
      unfold ptr at e
      injection e with e
      injection e with e
      injection e with e
      omega), (B4.alloc (by omega) _).trans (QO.below _)⟩
    · rw [hh5, insN_b]
      exact heap_alloc_new w4 _
    · exact NdAt.keep K45 _ (hr w4 (Ag.refl _ _ _))
    · exact NewMark.keep (w := w4) ⟨w1.heap.size, rfl, hsw1, (Kept.of hb4).at HTF.out.2.1, (Kept.of hb4).at HTF.out.2.2.1⟩ K45
    · have h1 := hsu.new j
      have h2 : (leafW w1 k v).heap.size ≤ (ns j).1 := h1.1
      have h3 : w4.heap.size + 1 = w5.heap.size := by rw [hh5]; simp only [World.size_alloc]
      omega
    · exact ((hsu.mark j).mono (by show w.heap.size ≤ (leafW w1 k v).heap.size; omega)).keep K45
  | some l' =>
    rw [hfo] at hfat
    have q8 := Aside0.mk (fun W (hW : Kept w W) => told W (some l') (hfat.keep hW))
    unfold leafPtr toldV ptr at q8
    unfold leafPtr ptr
    have HFO := Aside0.mk hfo
    have KW : Aside0 (Kept w w4) := ⟨(Kept.of HB1.out).trans (Kept.trans (b := leafW w1 k v) (Kept.of HTF.out.2.2.2.2) (fun x hx => Kept.of H4.out.2.2 x hx) HTF.out.2.2.2.2.size) HB1.out.size⟩
    clear hfo hfat
    have KW2 : Aside0 (∀ o, Kept w (w4.alloc o)) := ⟨fun o => KW.out.trans (Kept.of ((Below.refl _ w4).alloc (Nat.le_refl _) _)) (by have h1 : (leafW w1 k v).heap.size ≤ w4.heap.size := H4.out.2.2.size; have h2 : (leafW w1 k v).heap.size = w1.heap.size + 3 := HTF.out.1; have h3 := HB1.out.size; omega)⟩
    go_wp2_with (go_at_call 87; refine (q8.out _ (KW2.out _)).mono ?_; rintro e w5 ⟨rfl, Q5⟩; have HQ5 := Aside0.mk Q5; clear Q5)
    go_ret3
    obtain ⟨hr, hsu, hb4⟩ := H4.out
    have hsw1 := HB1.out.size
    have hsl : (leafW w1 k v).heap.size = w1.heap.size + 3 := HTF.out.1
    have hsl2 : (leafW w1 k v).heap.size ≤ w4.heap.size := hb4.size
    have B4 : Below w.heap.size w w4 := (HB1.out.trans ⟨HTF.out.2.2.2.2.os, HTF.out.2.2.2.2.tape, HTF.out.2.2.2.2.output, HTF.out.2.2.2.2.size, fun x hx => HTF.out.2.2.2.2.block x (by omega)⟩).trans ⟨hb4.os, hb4.tape, hb4.output, hb4.size, fun x hx => hb4.block x (by show x < (leafW w1 k v).heap.size; omega)⟩
    have QO := HQ5.out
    have hh5 := QO.heap
    have K45 : Kept w4 w5 := (Kept.of ((Below.refl _ w4).alloc (Nat.le_refl _) _)).trans QO.kept (by simp only [World.size_alloc]; omega)
    refine ⟨w4.heap.size, w1.heap.size + 1 + 1, .pointer (some ⟨w1.heap.size + 1, 0, none⟩), ns, true, l'.val, rfl, ⟨?_, ?_⟩, by rw [HFO.out]; rfl, by omega, by omega, ?_, ⟨fun j => ?_, fun j => ?_⟩, (fun j e => by
      obtain ⟨c, e1, e2, _, _⟩ := hsu.mark j
      have h2 : (leafW w1 k v).heap.size ≤ c := e2
      rw [e1] at e
      unfold ptr at e
      injection e with e
      injection e with e
      injection e with e
      omega), (B4.alloc (by omega) _).trans (QO.below _)⟩
    · rw [hh5, insN_b]
      have e0 : size + incr true = size := Int.add_zero _
      rw [e0]
      exact heap_alloc_new w4 _
    · exact NdAt.keep K45 _ (hr w4 (Ag.refl _ _ _))
    · exact NewMark.keep (w := w4) ⟨w1.heap.size, rfl, hsw1, (Kept.of hb4).at HTF.out.2.1, (Kept.of hb4).at HTF.out.2.2.1⟩ K45
    · have h1 := hsu.new j
      have h2 : (leafW w1 k v).heap.size ≤ (ns j).1 := h1.1
      have h3 : w4.heap.size + 1 = w5.heap.size := by rw [hh5]; simp only [World.size_alloc]
      omega
    · exact ((hsu.mark j).mono (by show w.heap.size ≤ (leafW w1 k v).heap.size; omega)).keep K45
end Go.Proofs.Ytjhgknagmiekeaa.T
namespace Go.Proofs.Ytjhgknagmiekeaa.G
open Go.RowKit Go.Lib Go.Proofs Go.Conc
open Go.Proofs.YtjhgknagmiekeaaW.PrintWords hiding Kept
open Go.Proofs.Ytjhgknagmiekeaa.T (Nd Ok Tr L ptr All valT wasV nodeT nodeT_of findT findT_node insN fine_ins len_ins find_eq find_ins vals_ins valT_ins treeInsertM incr node_keep node_new Lf L_ne L_len)
theorem node_mks : ∀ (N : Nat) (n : Nd) (r : List UInt8) (X : Nd), r.length ≤ N → Ok n → nodeT n r = some X → ∀ m ∈ mks X, m ∈ mks n := by
  intro N
  induction N with
  | zero =>
    intro n r X hr ho h m hm
    have e : r = [] := List.length_eq_zero_iff.1 (by omega)
    rw [e, T.nodeT_nil] at h
    cases h
    exact hm
  | succ N ih =>
    intro n r X hr ho h m hm
    rcases nodeT_of ho h with ⟨-, e⟩ | ⟨k, hk, t, e, ht⟩
    · rw [e] at hm; exact hm
    · have hpos := ho.parts.2.1 k hk
      have hl : r.length = k.label.size + t.length := by rw [e, List.length_append, L_len]
      exact mks_kid hk (ih k t X (by omega) (ho.parts.2.2.get k hk) ht m hm)
theorem node_mk {n : Nd} (ho : Ok n) {r : List UInt8} {X : Nd} (h : nodeT n r = some X) : X.mark ∈ mks n := node_mks r.length n r X (Nat.le_refl _) ho h _ (mks_mark X)
theorem leaf_mk {n : Nd} (ho : Ok n) {r : List UInt8} {l : Lf} (h : findT n r = some l) : l.mark ∈ mks n := by
  rw [findT_node r.length n r (Nat.le_refl _)] at h
  obtain ⟨X, hX, hl⟩ := Option.bind_eq_some_iff.1 h
  exact node_mks r.length n r X (Nat.le_refl _) ho hX _ (mks_leaf hl)
structure Lone (root : Nd) : Prop where
  node : ∀ r l q X, findT root r = some l → nodeT root q = some X → X.mark ≠ l.mark
  leaf : ∀ r r' l l', findT root r = some l → findT root r' = some l' → r ≠ r' → l.mark ≠ l'.mark
theorem mk_old {w : World} {m : Value} (h : MkAt w m) {c : Nat} (hc : w.heap.size ≤ c) : m ≠ ptr (c + 1) := fun e => by
  obtain ⟨c', d, e', hw⟩ := h
  rw [e'] at e
  unfold ptr at e
  injection e with e
  injection e with e
  injection e with e
  have := (Array.getElem?_eq_some_iff.1 hw.obj).1
  omega
theorem insW (w : World) (tb : Nat) (root : Nd) (h : Tr w tb root) (hM : Mks w root) (hL : Lone root) (k : ByteArray) (v : Int) (hk : k.size < 4000000000000) (hs : (All root).length < 3999999999999) :
    Calls Try.prog 43 #[ptr tb, .string k, .int .i64 v] w fun e w' => ∃ tb' root', e = .returned (wasV tb' (valT root (L k))) ∧ Tr w' tb' root' ∧ (∀ r, valT root' r = if r = L k then some (.int .i64 v) else valT root r) ∧ (All root').length ≤ (All root).length + 1 ∧ Mks w' root' ∧ (∀ x ∈ mks root', x ∈ mks root ∨ ∃ c, x = ptr (c + 1) ∧ w.heap.size ≤ c ∧ WatchAt w' (c + 1) c false) ∧ Lone root' ∧
      (∀ r X, nodeT root r = some X → ¬ r <+: L k → ∃ X', nodeT root' r = some X' ∧ X'.mark = X.mark) ∧ (∀ r, r ≠ L k → findT root' r = findT root r) ∧ Below w.heap.size w w' := by
  refine (treeInsertM w tb root _ v k h.at_ h.fine.ok h.fine.sm hk (by omega) (by omega)).mono ?_
  rintro e w' ⟨tb', lb, m, ns, had, old, rfl, h1, h2, h3, h4, h5, h6, hne, hB⟩
  have hg := fine_ins h.fine k hk ⟨lb, k, .int .i64 v, m⟩ rfl ns
  have hl := len_ins h.fine.toGood k ⟨lb, k, .int .i64 v, m⟩ ns hg.toGood
  rw [find_eq h.fine.toGood] at h2
  have hfi := fun r => find_ins k.size k (Nat.le_refl _) root h.fine.ok ⟨lb, k, .int .i64 v, m⟩ ns r
  obtain ⟨cm, em, hcm, hm3, hm4⟩ := h5
  have hnode : ∀ q X', nodeT (insN root k ⟨lb, k, .int .i64 v, m⟩ ns) q = some X' → (MkAt w X'.mark ∧ ∃ q' X, nodeT root q' = some X ∧ X'.mark = X.mark) ∨ ∃ j, X'.mark = (ns j).2 := fun q X' hq => by
    rcases node_new k.size k (Nat.le_refl _) root h.fine.ok _ ns q X' hq with ⟨q', X, a, b⟩ | a
    · exact .inl ⟨by rw [b]; exact hM _ (node_mk h.fine.ok a), q', X, a, b⟩
    · exact .inr a
  refine ⟨tb', insN root k ⟨lb, k, .int .i64 v, m⟩ ns, ?_, ⟨?_, hg, vals_ins h.fine.toGood h.vals k _ v rfl ns⟩, valT_ins h.fine.toGood k _ ns, ?_, fun x hx => ?_, fun x hx => ?_, ⟨fun r l q X' hr hq => ?_, fun r r' l l' hr hr' hrr => ?_⟩, fun r X hX hr => node_keep k.size k (Nat.le_refl _) root h.fine.ok _ ns r X hX hr, fun r hr => by rw [hfi r, if_neg hr], hB⟩
  · unfold valT
    cases e : findT root (L k) with
    | none => rw [e] at h2; cases h2; rfl
    | some l => rw [e] at h2; cases h2; rfl
  · have e : (All root).length + incr had = ((All (insN root k ⟨lb, k, .int .i64 v, m⟩ ns)).length : Int) := by
      rw [hl]
      cases e : findT root (L k) with
      | none => rw [e] at h2; cases h2; rfl
      | some l => rw [e] at h2; cases h2; rfl
    rw [← e]
    exact h1
  · have : (if findT root (L k) = none then (1 : Int) else 0) ≤ 1 := by split <;> omega
    omega
  · rcases mks_ins k.size k (Nat.le_refl _) root _ ns x hx with h7 | h7 | ⟨j, h7⟩
    · exact (hM x h7).imp (fun c d hw => ⟨d, hw.move (hB.block _ (Array.getElem?_eq_some_iff.1 hw.obj).1) (hB.block _ (Array.getElem?_eq_some_iff.1 hw.ch).1)⟩)
    · exact ⟨cm, false, h7.trans em, ⟨hm4, hm3⟩⟩
    · obtain ⟨c, e1, e2, e3, e4⟩ := h6.mark j
      exact ⟨c, false, h7.trans e1, ⟨e4, e3⟩⟩
  · rcases mks_ins k.size k (Nat.le_refl _) root _ ns x hx with h7 | h7 | ⟨j, h7⟩
    · exact .inl h7
    · exact .inr ⟨cm, h7.trans em, hcm, ⟨hm4, hm3⟩⟩
    · obtain ⟨c, e1, e2, e3, e4⟩ := h6.mark j
      exact .inr ⟨c, h7.trans e1, e2, ⟨e4, e3⟩⟩
  · rw [hfi] at hr
    rcases hnode q X' hq with ⟨hmk, q', X, hX, eX⟩ | ⟨j, eX⟩
    · split at hr
      · cases hr
        show X'.mark ≠ m
        rw [em]
        exact mk_old hmk hcm
      · rw [eX]
        exact hL.node r l q' X hr hX
    · split at hr
      · cases hr
        show X'.mark ≠ m
        rw [eX]
        exact fun e => hne j e.symm
      · obtain ⟨c, e1, e2, _, _⟩ := h6.mark j
        rw [eX, e1]
        exact fun e => mk_old (hM _ (leaf_mk h.fine.ok hr)) e2 e.symm
  · rw [hfi] at hr hr'
    split at hr
    · rename_i er
      rw [if_neg (fun e => hrr (er.trans e.symm))] at hr'
      cases hr
      show m ≠ l'.mark
      rw [em]
      exact fun e => mk_old (hM _ (leaf_mk h.fine.ok hr')) hcm e.symm
    · split at hr'
      · cases hr'
        show l.mark ≠ m
        rw [em]
        exact mk_old (hM _ (leaf_mk h.fine.ok hr)) hcm
      · exact hL.leaf r r' l l' hr hr' hrr
end Go.Proofs.Ytjhgknagmiekeaa.G
set_option linter.unusedVariables false
set_option linter.unusedSimpArgs false
namespace Go.Proofs.Ytjhgknagmiekeaa.T
theorem getD_get {ks : List ByteArray} {i : Nat} (h : i < ks.length) : ks.getD i ⟨#[]⟩ = ks[i] := by simp [List.getD_eq_getElem?_getD, h]
end Go.Proofs.Ytjhgknagmiekeaa.T
set_option linter.unusedVariables false
set_option linter.unusedSimpArgs false
namespace Go.Proofs.Ytjhgknagmiekeaa.G
open Go.RowKit Go.Lib Go.Proofs Go.Conc
open Go.Proofs.YtjhgknagmiekeaaW.PrintWords hiding Kept
open Go.Proofs.Ytjhgknagmiekeaa.T (Nd Ok Tr L ptr All valT wasV nodeT findT findT_node Strs emptyN Kept treeNew TrAt belowAt getD_get)
def Raw (B : Nat) (w : World) (root : Nd) : Prop := ∀ m ∈ mks root, ∃ c, m = ptr (c + 1) ∧ B ≤ c ∧ WatchAt w (c + 1) c false
theorem Raw.mks {B : Nat} {w : World} {root : Nd} (h : Raw B w root) : Mks w root := fun m hm => by
  obtain ⟨c, e, _, hw⟩ := h m hm
  exact ⟨c, false, e, hw⟩
theorem Raw.far {B : Nat} {w : World} {root : Nd} (h : Raw B w root) : ∀ m ∈ G.mks root, B ≤ chOf m := fun m hm => by
  obtain ⟨c, e, hc, hw⟩ := h m hm
  rw [e, chOf_ptr]
  exact hc
theorem Raw.below {B : Nat} {w w' : World} {root : Nd} (h : Raw B w root) (hb : Below w.heap.size w w') : Raw B w' root := fun m hm => by
  obtain ⟨c, e, hc, hw⟩ := h m hm
  exact ⟨c, e, hc, hw.move (hb.block _ (Array.getElem?_eq_some_iff.1 hw.obj).1) (hb.block _ (Array.getElem?_eq_some_iff.1 hw.ch).1)⟩
theorem find_empty (b : Nat) (m : Value) (r : List UInt8) : findT (emptyN b m) r = none := by
  rw [findT_node r.length _ r (Nat.le_refl _)]
  by_cases hr : r = []
  · rw [hr, T.nodeT_nil]; rfl
  · rw [T.nodeT_eq _ _ hr]; rfl
theorem newW (w : World) : Calls Try.prog 45 #[] w fun e w' => ∃ tb root, e = .returned (ptr tb) ∧ Tr w' tb root ∧ All root = [] ∧ Raw w.heap.size w' root ∧ Lone root ∧ Below w.heap.size w w' := by
  refine (treeNew w).mono ?_
  rintro e w' ⟨tb, b, m, rfl, h1, h2, h3, h4, h5⟩
  refine ⟨tb, emptyN b m, rfl, ⟨by rw [T.all_empty]; exact h1, T.fine_empty b m, T.vals_empty b m⟩, T.all_empty b m, fun x hx => ?_, ⟨fun r l q X h => ?_, fun r r' l l' h => ?_⟩, h5⟩
  · obtain ⟨c, e1, e2, e3, e4⟩ := h2
    rw [mks_eq] at hx
    exact ⟨c, (List.mem_singleton.1 hx).trans e1, e2, ⟨e4, e3⟩⟩
  · rw [find_empty] at h; cases h
  · rw [find_empty] at h; cases h
set_option maxHeartbeats 4000000 in
set_option maxRecDepth 100000 in
theorem builtW (w : World) (A : Option Addr) (c : Nat) (ks : List ByteArray) (hA : Strs w A ks) (hn : ks.length < 1000000000000) (hk : ∀ k ∈ ks, k.size < 4000000000000) :
    Calls Try.prog 37 #[.slice A ks.length c] w fun e w' => ∃ tb root, e = .returned (ptr tb) ∧ Tr w' tb root ∧ (All root).length ≤ ks.length ∧ Raw w.heap.size w' root ∧ Lone root ∧ Below w.heap.size w w' := by
  have HA := Aside0.mk hA
  have HK := Aside0.mk hk
  have q0 := Aside0.mk (newW w)
  obtain ⟨n, en⟩ : ∃ n, ks.length = n := ⟨_, rfl⟩
  have HN := Aside0.mk en
  rw [en] at hn ⊢
  clear hA hk en
  go_enter Try.func37, Try.ntmps37
  go_wp2_with (go_at_call 45; refine q0.out.mono ?_)
  rintro e w1 ⟨tb, root, rfl, ht, hl, hr, hlo, hB⟩
  have H1 := Aside0.mk (And.intro ht (And.intro hl (And.intro hr (And.intro hlo hB))))
  clear ht hr hl hlo hB q0
  unfold ptr
  go_wp2_with fail
  go_loopg [3, 9] (n + 1) (fun kq v3 v9 w' => ∃ (i tb : Nat) (root : Nd), v3 = .pointer (some ⟨tb, 0, none⟩) ∧ v9 = .int .i64 (i : Int) ∧ Aside0 (i + kq = n + 1 ∧ i ≤ n) ∧ Aside0 (Tr w' tb root ∧ (All root).length ≤ i ∧ Raw w.heap.size w' root ∧ Lone root) ∧ Aside0 (Below w.heap.size w w'))
  case atStart => exact ⟨0, tb, root, rfl, rfl, ⟨by omega⟩, ⟨H1.out.1, by rw [H1.out.2.1]; exact Nat.le_refl _, H1.out.2.2.1, H1.out.2.2.2.1⟩, ⟨H1.out.2.2.2.2⟩⟩
  case round =>
    obtain ⟨i, tb, root, rfl, rfl, HI, HT, HB⟩ := hrel
    by_cases hi : i < n
    · have hi' : i < ks.length := by rw [HN.out]; exact hi
      obtain ⟨ad, ea, ka⟩ := (HA.out.keep (Kept.of HB.out)) i hi'
      obtain ⟨k, ek⟩ : ∃ k, ks[i] = k := ⟨_, rfl⟩
      rw [ek] at ka
      have hks : k.size < 4000000000000 := HK.out k (by rw [← ek]; exact List.getElem_mem _)
      subst ea
      have q1 := insW wr tb root HT.out.1 HT.out.2.2.1.mks HT.out.2.2.2 k (i : Int) hks (by have := HT.out.2.1; omega)
      obtain ⟨o, eo⟩ : ∃ o, valT root (L k) = o := ⟨_, rfl⟩
      rw [eo] at q1
      have hform : ∀ tb' : Nat, ∃ a b, wasV tb' o = .tuple #[ptr tb', a, .bool b] := fun tb' => by cases o <;> exact ⟨_, _, rfl⟩
      have HF := Aside0.mk hform
      have q2 := Aside0.mk q1
      clear ek hi' q1 eo hform
      unfold ptr at q2
      go_wp2_with (go_at_call 43; refine q2.out.mono ?_)
      rintro e w2 ⟨tb2, root2, rfl, ht, -, hl, -, hr, hlo, -, -, hb⟩
      obtain ⟨a, b, eab⟩ := HF.out tb2
      unfold ptr at eab
      rw [eab]
      have H2 := Aside0.mk (And.intro ht (And.intro hl (And.intro hr (And.intro hlo hb))))
      clear ht hl hr hlo hb q2 eab HF
      go_wp2_with fail
      go_roundg (n - i)
      case measure => have := HI.out; omega
      case rel =>
        refine ⟨i + 1, tb2, root2, rfl, by simp, ⟨by have := HI.out; omega⟩, ⟨H2.out.1, by have := H2.out.2.1; have := HT.out.2.1; omega, fun m hm => ?_, H2.out.2.2.2.1⟩, ⟨belowAt HB.out H2.out.2.2.2.2⟩⟩
        rcases H2.out.2.2.1 m hm with h | ⟨c, e, hc, hw⟩
        · exact (HT.out.2.2.1.below H2.out.2.2.2.2) m h
        · exact ⟨c, e, Nat.le_trans HB.out.size hc, hw⟩
    · have hin : i = n := by have := HI.out; omega
      subst hin
      go_wp2_with fail
      go_ret
      exact ⟨tb, root, rfl, HT.out.1, HT.out.2.1, HT.out.2.2.1, HT.out.2.2.2, HB.out⟩
end Go.Proofs.Ytjhgknagmiekeaa.G
set_option linter.unusedVariables false
set_option linter.unusedSimpArgs false
namespace Go.Proofs.Ytjhgknagmiekeaa.G
open Go.RowKit Go.Lib Go.Proofs Go.Conc
open Go.Proofs.YtjhgknagmiekeaaW.PrintWords hiding Kept
open Go.Proofs.Ytjhgknagmiekeaa.T (Nd Ok Tr L L_len ptr All valT nodeT findT markN watchN stepM wayF wayL wayF_list way_root onR seekN)
def On (root : Nd) (p : ByteArray) (c : Nat) : Prop := ∃ j, j ≤ p.size ∧ ∃ X, nodeT root ((L p).take j) = some X ∧ X.mark = ptr (c + 1)
theorem mark_on {root : Nd} (h : T.Good root) (p : ByteArray) : ∃ j, j ≤ p.size ∧ ∃ X, nodeT root ((L p).take j) = some X ∧ X.mark = markN root p := by
  have key : ∀ (l : List (Nd × Nat)) (s : Value), l ≠ [] → ∃ q ∈ l, l.foldl (fun s q => stepM s q.1 q.2) s = q.1.mark := by
    intro l
    induction l with
    | nil => intro s hl; exact absurd rfl hl
    | cons q l ih =>
      intro s _
      by_cases hl : l = []
      · subst hl; exact ⟨q, List.mem_cons_self, rfl⟩
      · obtain ⟨q', hq', e⟩ := ih (stepM s q.1 q.2) hl
        exact ⟨q', List.mem_cons_of_mem _ hq', e⟩
  have hne : wayL p (p.size + 2) (some root) 0 ≠ [] := by
    have h2 : p.size + 2 = p.size + 1 + 1 := rfl
    rw [h2, wayL]
    exact List.cons_ne_nil _ _
  obtain ⟨q, hq, e⟩ := key _ (.pointer none) hne
  rw [way_root h] at hq
  obtain ⟨j, hj, ej⟩ := List.mem_filterMap.1 hq
  have hj2 := List.mem_range.1 hj
  unfold onR at ej
  obtain ⟨X, hX, eX⟩ := Option.map_eq_some_iff.1 ej
  refine ⟨j, by omega, X, hX, ?_⟩
  unfold markN
  rw [wayF_list, e, ← eX]
theorem ch_ptr {w : World} {m : Value} (h : MkAt w m) {c : Nat} (e : chOf m = c) : m = ptr (c + 1) := by
  obtain ⟨c', d, e', -⟩ := h
  rw [e', chOf_ptr] at e
  rw [e', e]
theorem L_inj {a b : ByteArray} (h : L a = L b) : a = b := by
  cases a with | mk a => cases b with | mk b => cases a; cases b; exact congrArg _ (congrArg _ h)
theorem shut_on {root : Nd} (h : T.Good root) (w0 : World) {p : ByteArray} {c : Nat} (hOn : On root p c) {q : ByteArray} (hq : L p <+: L q) : (fireAll w0 root [q]).1 c = true := by
  obtain ⟨j, hj, X, hX, e⟩ := hOn
  obtain ⟨u, hu⟩ := hq
  have hjl : j ≤ (L p).length := by rw [L_len]; exact hj
  have hqs : q.size = p.size + u.length := by rw [← L_len, ← hu, List.length_append, L_len]
  refine (fire_key h w0 q c).2 (.inl ⟨j, by omega, X, ?_, by rw [e]; rfl⟩)
  rw [← hu, List.take_append_of_le_length hjl]
  exact hX
theorem keep_on {root root' : Nd} (h : T.Good root) (w0 : World) {p o : ByteArray} {c : Nat} (hOn : On root p c) (hk : ∀ r X, nodeT root r = some X → ¬ r <+: L o → ∃ X', nodeT root' r = some X' ∧ X'.mark = X.mark) : (fireAll w0 root [o]).1 c = true ∨ On root' p c := by
  obtain ⟨j, hj, X, hX, e⟩ := hOn
  by_cases hp : (L p).take j <+: L o
  · refine .inl ((fire_key h w0 o c).2 (.inl ⟨((L p).take j).length, ?_, X, ?_, by rw [e]; rfl⟩))
    · have := hp.length_le
      rw [L_len] at this
      exact this
    · rw [← List.prefix_iff_eq_take.1 hp]
      exact hX
  · obtain ⟨X', h1, h2⟩ := hk _ X hX hp
    exact .inr ⟨j, hj, X', h1, h2.trans e⟩
theorem shut_leaf {root : Nd} (h : T.Good root) (w0 : World) {k : ByteArray} {c : Nat} (hl : ∃ l, findT root (L k) = some l ∧ l.mark = ptr (c + 1)) : (fireAll w0 root [k]).1 c = true := by
  obtain ⟨l, h1, h2⟩ := hl
  exact (fire_key h w0 k c).2 (.inr ⟨l, h1, by rw [h2]; rfl⟩)
theorem spare_leaf {w : World} {root : Nd} (h : T.Good root) (hM : Mks w root) (hL : Lone root) (w0 : World) {k o : ByteArray} {c : Nat} (hl : ∃ l, findT root (L k) = some l ∧ l.mark = ptr (c + 1)) (hne : L o ≠ L k) : (fireAll w0 root [o]).1 c = false := by
  obtain ⟨l, h1, h2⟩ := hl
  cases e : (fireAll w0 root [o]).1 c with
  | false => rfl
  | true =>
    exfalso
    rcases (fire_key h w0 o c).1 e with ⟨j, _, X, hX, eX⟩ | ⟨l', hl', el⟩
    · exact hL.node _ l _ X h1 hX ((ch_ptr (hM _ (node_mk h.ok hX)) eX).trans h2.symm)
    · exact hL.leaf _ _ l l' h1 hl' (fun e => hne e.symm) (h2.trans (ch_ptr (hM _ (leaf_mk h.ok hl')) el).symm)
structure WakeI (w : World) (tb : Nat) (root : Nd) (p k : ByteArray) (there : Bool) (cu co : Nat) (du dd : Bool) : Prop where
  tr : Tr w tb root
  mrk : Mks w root
  lone : Lone root
  wu : WatchAt w (cu + 1) cu du
  wo : WatchAt w (co + 1) co dd
  onu : du = true ∨ On root p cu
  own : (there = true ∧ dd = false ∧ ∃ l, findT root (L k) = some l ∧ l.mark = ptr (co + 1)) ∨ (there = false ∧ (dd = true ∨ On root k co))
theorem shot_tree {w w1 : World} {S : Nat → Bool} {tb : Nat} {root : Nd} (hs : Shot w w1 S) (ht : Tr w tb root) (hM : Mks w root) : Tr w1 tb root ∧ Mks w1 root :=
  ⟨hs.farP.tr rfl rfl rfl rfl ht, fun m hm => (hM m hm).imp (fun c d hw => ⟨_, hs.watch c d hw⟩)⟩
theorem WakeI.round {w w1 w2 : World} {tb tb2 : Nat} {root root2 : Nd} {p k o : ByteArray} {there : Bool} {cu co : Nat} {du dd : Bool} (h : WakeI w tb root p k there cu co du dd) (hs : Shot w w1 (fireAll w root [o]).1) (ho : L o ≠ L k)
    (ht : Tr w2 tb2 root2) (hM : Mks w2 root2) (hL : Lone root2) (hkeep : ∀ r X, nodeT root r = some X → ¬ r <+: L o → ∃ X', nodeT root2 r = some X' ∧ X'.mark = X.mark) (hfind : ∀ r, r ≠ L o → findT root2 r = findT root r) (hb : Below w1.heap.size w1 w2) :
    ∃ du2 dd2, WakeI w2 tb2 root2 p k there cu co du2 dd2 := by
  have hg := h.tr.fine.toGood
  have mv : ∀ {c : Nat} {d : Bool}, WatchAt w (c + 1) c d → WatchAt w2 (c + 1) c (d || (fireAll w root [o]).1 c) := fun {c d} hw => by
    have h1 := hs.watch c d hw
    exact h1.move (hb.block _ (Array.getElem?_eq_some_iff.1 h1.obj).1) (hb.block _ (Array.getElem?_eq_some_iff.1 h1.ch).1)
  have on2 : ∀ {q : ByteArray} {c : Nat} {d : Bool}, (d = true ∨ On root q c) → ((d || (fireAll w root [o]).1 c) = true ∨ On root2 q c) := fun {q c d} hq => by
    rcases hq with e | e
    · exact .inl (by rw [e]; rfl)
    · rcases keep_on hg w e hkeep with e2 | e2
      · exact .inl (by rw [e2, Bool.or_true])
      · exact .inr e2
  refine ⟨_, _, ht, hM, hL, mv h.wu, mv h.wo, on2 h.onu, ?_⟩
  rcases h.own with ⟨h1, h2, l, h3, h4⟩ | ⟨h1, h2⟩
  · refine .inl ⟨h1, ?_, l, by rw [hfind _ (Ne.symm ho)]; exact h3, h4⟩
    rw [h2, spare_leaf hg h.mrk h.lone w ⟨l, h3, h4⟩ ho]
    rfl
  · exact .inr ⟨h1, on2 h2⟩
theorem WakeI.under {w w1 : World} {tb : Nat} {root : Nd} {p k q : ByteArray} {there : Bool} {cu co : Nat} {du dd : Bool} (h : WakeI w tb root p k there cu co du dd) (hs : Shot w w1 (fireAll w root [q]).1) (hq : L p <+: L q) :
    Tr w1 tb root ∧ Mks w1 root ∧ WatchAt w1 (cu + 1) cu true ∧ ∃ d2, WatchAt w1 (co + 1) co d2 ∧ (there = true → d2 = decide (k = q)) ∧ (∀ W, d2 = true ∨ (fireAll W root [k]).1 co = true) := by
  have hg := h.tr.fine.toGood
  obtain ⟨ht, hM⟩ := shot_tree hs h.tr h.mrk
  have e1 : (du || (fireAll w root [q]).1 cu) = true := by
    rcases h.onu with e | e
    · rw [e]; rfl
    · rw [shut_on hg w e hq, Bool.or_true]
  refine ⟨ht, hM, by rw [← e1]; exact hs.watch cu du h.wu, _, hs.watch co dd h.wo, fun e => ?_, fun W => ?_⟩
  · rcases h.own with ⟨h1, h2, h3⟩ | ⟨h1, h2⟩
    · rw [h2, Bool.false_or]
      by_cases hk : k = q
      · subst hk
        rw [shut_leaf hg w h3]
        simp
      · rw [spare_leaf hg h.mrk h.lone w h3 (fun e => hk (L_inj e).symm)]
        simp [hk]
    · rw [h1] at e; cases e
  · rcases h.own with ⟨h1, h2, h3⟩ | ⟨h1, h2 | h2⟩
    · exact .inr (shut_leaf hg W h3)
    · exact .inl (by rw [h2]; rfl)
    · exact .inr (shut_on hg W h2 (List.prefix_refl _))
theorem WakeI.start {w : World} {tb : Nat} {root : Nd} (ht : Tr w tb root) {B : Nat} (hR : Raw B w root) (hL : Lone root) (p k : ByteArray) :
    ∃ cu co, markN root p = ptr (cu + 1) ∧ watchN root k = ptr (co + 1) ∧ WakeI w tb root p k ((findT root (L k)).isSome) cu co false false := by
  have hg := ht.fine.toGood
  obtain ⟨j, hj, X, hX, eX⟩ := mark_on hg p
  obtain ⟨cu, e1, _, w1⟩ := hR _ (node_mk hg.ok hX)
  have es := T.seek_eq hg k
  unfold watchN
  rw [es]
  cases hl : findT root (L k) with
  | some l =>
    obtain ⟨co, e2, _, w2⟩ := hR _ (leaf_mk hg.ok hl)
    exact ⟨cu, co, by rw [← eX, e1], e2, ht, hR.mks, hL, w1, w2, .inr ⟨j, hj, X, hX, e1⟩, .inl ⟨rfl, rfl, l, hl, e2⟩⟩
  | none =>
    obtain ⟨i, hi, Y, hY, eY⟩ := mark_on hg k
    obtain ⟨co, e2, _, w2⟩ := hR _ (node_mk hg.ok hY)
    exact ⟨cu, co, by rw [← eX, e1], by show markN root k = _; rw [← eY, e2], ht, hR.mks, hL, w1, w2, .inr ⟨j, hj, X, hX, e1⟩, .inr ⟨rfl, .inr ⟨i, hi, Y, hY, e2⟩⟩⟩
theorem WakeI.below {w w' : World} {tb : Nat} {root : Nd} {p k : ByteArray} {there : Bool} {cu co : Nat} {du dd : Bool} (h : WakeI w tb root p k there cu co du dd) (hb : Below w.heap.size w w') : WakeI w' tb root p k there cu co du dd := by
  have mv : ∀ {c : Nat} {d : Bool}, WatchAt w (c + 1) c d → WatchAt w' (c + 1) c d := fun {c d} hw => hw.move (hb.block _ (Array.getElem?_eq_some_iff.1 hw.obj).1) (hb.block _ (Array.getElem?_eq_some_iff.1 hw.ch).1)
  exact ⟨h.tr.keep (T.Kept.of hb), fun m hm => (h.mrk m hm).imp (fun c d hw => ⟨d, mv hw⟩), h.lone, mv h.wu, mv h.wo, h.onu, h.own⟩
theorem fireOne (w : World) (tb : Nat) (root : Nd) (ht : Tr w tb root) (hM : Mks w root) (b cc : Nat) (o : ByteArray) (hb : w.heap[b]? = some (.cells #[.string o] 9 (0, 0))) (ho : o.size < 4000000000000) :
    Calls Try.prog 61 #[ptr tb, .slice (some ⟨b, 0, none⟩) 1 cc] w fun e w' => (∃ x, e = .returned (.int .i64 x)) ∧ Shot w w' (fireAll w root [o]).1 := by
  refine (fireTree w tb root ht hM (some ⟨b, 0, none⟩) cc [o] (fun i hi => ⟨_, rfl, ?_⟩) (fun i hi => ⟨_, _, _, rfl, hb⟩) (by rw [List.length_singleton]; omega) (fun x hx => by rw [List.mem_singleton.1 hx]; exact ho)).mono (fun e w' h => ⟨⟨_, h.1⟩, h.2⟩)
  have hi0 : i = 0 := by have h1 : i < 1 := hi; omega
  subst hi0
  show w.cell? ⟨b, 0 + 0, none⟩ = _
  rw [blk_cell hb]
  rfl
theorem watch_below {w w' : World} {c : Nat} {d : Bool} (hw : WatchAt w (c + 1) c d) (hb : Below w.heap.size w w') : WatchAt w' (c + 1) c d := hw.move (hb.block _ (Array.getElem?_eq_some_iff.1 hw.obj).1) (hb.block _ (Array.getElem?_eq_some_iff.1 hw.ch).1)
theorem mks_below {w w' : World} {root : Nd} (hM : Mks w root) (hb : Below w.heap.size w w') : Mks w' root := fun m hm => (hM m hm).imp (fun c d hw => ⟨d, watch_below hw hb⟩)
theorem beq_q (k q : ByteArray) : (k.toList == q.toList) = decide (k = q) := by
  rw [ByteArray.toList_eq, ByteArray.toList_eq]
  by_cases h : k = q
  · subst h; simp
  · have h2 : ¬ k.data = q.data := fun e => h (L_inj (congrArg Array.toList e))
    simp [h, h2]
theorem shot_below {w w1 : World} {root : Nd} {o : ByteArray} {B : Nat} (hs : Shot w w1 (fireAll w root [o]).1) (hB : B ≤ w.heap.size) (hf : ∀ m ∈ mks root, B ≤ chOf m) : Below B w w1 :=
  hs.below B hB (fun c d _ hS => by
    obtain ⟨m, hm1, hm2⟩ := fireAll_mks w root [o] c hS
    rw [← hm2]
    exact hf m hm1)
theorem got_form {root : Nd} (hv : T.IntVals root) (r : List UInt8) : ∃ x : Int, T.gotV (valT root r) = .tuple #[.int .i64 x, .bool (findT root r).isSome] := by
  unfold T.valT
  cases e : findT root r with
  | none => exact ⟨0, rfl⟩
  | some l =>
    obtain ⟨v, ev⟩ := hv _ _ e
    exact ⟨v, by show Value.tuple #[l.val, .bool true] = _; rw [ev]; rfl⟩
end Go.Proofs.Ytjhgknagmiekeaa.G
set_option linter.unusedVariables false
set_option linter.unusedSimpArgs false
namespace Go.Proofs.Ytjhgknagmiekeaa.T
open Go.RowKit Go.Lib Go.Proofs Go.Proofs.YtjhgknagmiekeaaW.PrintWords
def kAB : ByteArray := ⟨#[97, 98]⟩
def kABC : ByteArray := ⟨#[97, 98, 99]⟩
def kAX : ByteArray := ⟨#[97, 120]⟩
def kC : ByteArray := ⟨#[99]⟩
def kA : ByteArray := ⟨#[97]⟩
def kB : ByteArray := ⟨#[98]⟩
def kX : ByteArray := ⟨#[120]⟩
def sh0 (b : Nat) (m : Value) : Nd := .mk b ⟨#[]⟩ none [] m
def sh1 (b b1 : Nat) (l0 : Lf) (m m1 : Value) : Nd := .mk b ⟨#[]⟩ none [.mk b1 kAB (some l0) [] m1] m
def sh2 (b b1 b2 : Nat) (l0 l1 : Lf) (m m1 m2 : Value) : Nd := .mk b ⟨#[]⟩ none [.mk b1 kAB (some l0) [.mk b2 kC (some l1) [] m2] m1] m
def sh3 (b b1 b2 b3 b4 : Nat) (l0 l1 l2 : Lf) (m m1 m2 m3 m4 : Value) : Nd := .mk b ⟨#[]⟩ none [.mk b3 kA none [.mk b1 kB (some l0) [.mk b2 kC (some l1) [] m2] m1, .mk b4 kX (some l2) [] m4] m3] m
theorem step1 (b : Nat) (m : Value) (l : Lf) (ns : Sup) : insN (sh0 b m) kAB l ns = sh1 (ns 0).1 (ns 1).1 l (ns 0).2 (ns 1).2 := by
  rw [insN, dif_neg (by decide)]
  rfl
theorem step2 (b b1 : Nat) (l0 : Lf) (m m1 : Value) (l : Lf) (ns : Sup) : insN (sh1 b b1 l0 m m1) kABC l ns = sh2 (ns 0).1 (ns 1).1 (ns 2).1 l0 l (ns 0).2 (ns 1).2 (ns 2).2 := by
  have e1 : kidN (sh1 b b1 l0 m m1) kABC = some (.mk b1 kAB (some l0) [] m1) := rfl
  have e2 : insN (.mk b1 kAB (some l0) [] m1) kC l (fun j => ns (j + 1)) = .mk (ns 1).1 kAB (some l0) [.mk (ns 2).1 kC (some l) [] (ns 2).2] (ns 1).2 := by
    rw [insN, dif_neg (by decide)]
    rfl
  have e3 : kABC.extract (comB kAB kABC) kABC.size = kC := by decide
  rw [insN, dif_neg (by decide)]
  simp only [e1]
  have e4 : 0 < comB (Nd.mk b1 kAB (some l0) [] m1).label kABC ∧ comB (Nd.mk b1 kAB (some l0) [] m1).label kABC = (Nd.mk b1 kAB (some l0) [] m1).label.size := by
    show 0 < comB kAB kABC ∧ comB kAB kABC = kAB.size
    decide
  rw [dif_pos e4]
  have e5 : kABC.extract (comB (Nd.mk b1 kAB (some l0) [] m1).label kABC) kABC.size = kC := e3
  rw [e5, e2]
  rfl
theorem step3 (b b1 b2 : Nat) (l0 l1 : Lf) (m m1 m2 : Value) (l : Lf) (ns : Sup) : insN (sh2 b b1 b2 l0 l1 m m1 m2) kAX l ns = sh3 (ns 0).1 (ns 2).1 b2 (ns 1).1 (ns 3).1 l0 l1 l (ns 0).2 m1 m2 (ns 1).2 (ns 3).2 := by
  have e1 : kidN (sh2 b b1 b2 l0 l1 m m1 m2) kAX = some (.mk b1 kAB (some l0) [.mk b2 kC (some l1) [] m2] m1) := rfl
  rw [insN, dif_neg (by decide)]
  simp only [e1]
  have e4 : ¬ (0 < comB (Nd.mk b1 kAB (some l0) [.mk b2 kC (some l1) [] m2] m1).label kAX ∧ comB (Nd.mk b1 kAB (some l0) [.mk b2 kC (some l1) [] m2] m1).label kAX = (Nd.mk b1 kAB (some l0) [.mk b2 kC (some l1) [] m2] m1).label.size) := by
    show ¬ (0 < comB kAB kAX ∧ comB kAB kAX = kAB.size)
    decide
  rw [dif_neg e4]
  rfl
theorem had1 (b : Nat) (m : Value) : findN (sh0 b m) kAB = none := by
  rw [findN, dif_neg (by decide)]
  rfl
theorem had2 (b b1 : Nat) (l0 : Lf) (m m1 : Value) : findN (sh1 b b1 l0 m m1) kABC = none := by
  have e1 : kidN (sh1 b b1 l0 m m1) kABC = some (.mk b1 kAB (some l0) [] m1) := rfl
  have e2 : findN (.mk b1 kAB (some l0) [] m1) kC = none := by
    rw [findN, dif_neg (by decide)]
    rfl
  rw [findN, dif_neg (by decide)]
  simp only [e1]
  have e4 : 0 < comB (Nd.mk b1 kAB (some l0) [] m1).label kABC ∧ comB (Nd.mk b1 kAB (some l0) [] m1).label kABC = (Nd.mk b1 kAB (some l0) [] m1).label.size := by
    show 0 < comB kAB kABC ∧ comB kAB kABC = kAB.size
    decide
  have e5 : kABC.extract (comB (Nd.mk b1 kAB (some l0) [] m1).label kABC) kABC.size = kC := by
    show kABC.extract (comB kAB kABC) kABC.size = kC
    decide
  rw [dif_pos e4, e5, e2]
theorem had3 (b b1 b2 : Nat) (l0 l1 : Lf) (m m1 m2 : Value) : findN (sh2 b b1 b2 l0 l1 m m1 m2) kAX = none := by
  have e1 : kidN (sh2 b b1 b2 l0 l1 m m1 m2) kAX = some (.mk b1 kAB (some l0) [.mk b2 kC (some l1) [] m2] m1) := rfl
  rw [findN, dif_neg (by decide)]
  simp only [e1]
  have e4 : ¬ (0 < comB (Nd.mk b1 kAB (some l0) [.mk b2 kC (some l1) [] m2] m1).label kAX ∧ comB (Nd.mk b1 kAB (some l0) [.mk b2 kC (some l1) [] m2] m1).label kAX = (Nd.mk b1 kAB (some l0) [.mk b2 kC (some l1) [] m2] m1).label.size) := by
    show ¬ (0 < comB kAB kAX ∧ comB kAB kAX = kAB.size)
    decide
  rw [dif_neg e4]
theorem long3 (b b1 b2 b3 b4 : Nat) (l0 l1 l2 : Lf) (m m1 m2 m3 m4 : Value) : longN (sh3 b b1 b2 b3 b4 l0 l1 l2 m m1 m2 m3 m4) ⟨#[97, 98, 100]⟩ = some l0 := by kernel_rfl
theorem reach3 (b b1 b2 b3 b4 : Nat) (l0 l1 l2 : Lf) (m m1 m2 m3 m4 : Value) : reachN (sh3 b b1 b2 b3 b4 l0 l1 l2 m m1 m2 m3 m4) ⟨#[97, 121]⟩ = 1 := by kernel_rfl
end Go.Proofs.Ytjhgknagmiekeaa.T
set_option linter.unusedVariables false
set_option linter.unusedSimpArgs false
namespace Go.Proofs.Ytjhgknagmiekeaa.T
open Go.RowKit Go.Lib Go.Proofs Go.Proofs.YtjhgknagmiekeaaW.PrintWords
def key3 : Nat → ByteArray
  | 0 => kAB
  | 1 => kABC
  | _ => kAX
def Shape : Nat → Nd → Prop
  | 0, r => ∃ b m, r = sh0 b m
  | 1, r => ∃ b b1 l0 m m1, r = sh1 b b1 l0 m m1 ∧ l0.key = kAB ∧ l0.val = .int .i64 7
  | 2, r => ∃ b b1 b2 l0 l1 m m1 m2, r = sh2 b b1 b2 l0 l1 m m1 m2 ∧ l0.key = kAB ∧ l0.val = .int .i64 7
  | _, r => ∃ b b1 b2 b3 b4 l0 l1 l2 m m1 m2 m3 m4, r = sh3 b b1 b2 b3 b4 l0 l1 l2 m m1 m2 m3 m4 ∧ l0.key = kAB ∧ l0.val = .int .i64 7
theorem shape_next (i : Nat) (hi : i < 3) (r : Nd) (h : Shape i r) : findN r (key3 i) = none ∧ ∀ (l : Lf) ns, l.key = key3 i → l.val = .int .i64 (7 + (i : Int)) → Shape (i + 1) (insN r (key3 i) l ns) := by
  match i, hi, h with
  | 0, _, h =>
    obtain ⟨b, m, rfl⟩ := h
    exact ⟨had1 b m, fun l ns h1 h2 => ⟨_, _, l, _, _, step1 b m l ns, h1, h2⟩⟩
  | 1, _, h =>
    obtain ⟨b, b1, l0, m, m1, rfl, h1, h2⟩ := h
    exact ⟨had2 _ _ _ _ _, fun l ns _ _ => ⟨_, _, _, l0, l, _, _, _, step2 _ _ _ _ _ _ _, h1, h2⟩⟩
  | 2, _, h =>
    obtain ⟨b, b1, b2, l0, l1, m, m1, m2, rfl, h1, h2⟩ := h
    exact ⟨had3 _ _ _ _ _ _ _ _, fun l ns _ _ => ⟨_, _, _, _, _, l0, l1, l, _, _, _, _, _, step3 _ _ _ _ _ _ _ _ _ _, h1, h2⟩⟩
theorem key3_size (i : Nat) : (key3 i).size < 4000000000000 := by
  match i with
  | 0 => decide
  | 1 => decide
  | n + 2 => show kAX.size < _; decide
def threeO : Obj := .cells #[.string ⟨#[97, 98]⟩, .string ⟨#[97, 98, 99]⟩, .string ⟨#[97, 120]⟩] 9
theorem three_cell {w : World} {g : Nat} (h : w.heap[g]? = some threeO) (i : Nat) (hi : i < 3) : w.cell? ⟨g, i, none⟩ = some (.string (key3 i)) := by
  unfold threeO at h
  rw [blk_cell h]
  match i, hi with
  | 0, _ => rfl
  | 1, _ => rfl
  | 2, _ => rfl
set_option maxHeartbeats 8000000 in
set_option maxRecDepth 100000 in
theorem alive (w : World) : Calls Try.prog 36 #[] w fun e w' => e = .returned (.bool true) ∧ Below w.heap.size w w' := by
  have q0 := Aside0.mk (treeNew w)
  go_enter Try.func36, Try.ntmps36
  go_wp2_with (go_at_call 45; refine q0.out.mono ?_)
  rintro e w1 ⟨tb, b, m, rfl, ht, hm, hb1, hb2, hB⟩
  have q1 := Aside0.mk (treeLen w1 tb (emptyN b m) 0 ht)
  have H1 := Aside0.mk (And.intro ht hB)
  clear ht hm hb1 hb2 hB q0
  unfold ptr at q1 ⊢
  go_wp2_with (go_at_call 50; refine q1.out.mono ?_; rintro e w2 ⟨rfl, hw2⟩; subst hw2)
  clear q1
  have ht0 := H1.out.1.keep (Kept.of ((Below.refl _ w2).alloc (Nat.le_refl _) threeO))
  have HT0 := Aside0.mk ht0
  clear ht0
  go_loopg [1, 20] 4 (fun kq v1 v20 w' => ∃ (i tb : Nat) (root : Nd), v1 = .pointer (some ⟨tb, 0, none⟩) ∧ v20 = .int .i64 (i : Int) ∧ Aside0 (i + kq = 4 ∧ i ≤ 3) ∧ Aside0 (TrAt w' tb root i ∧ Good root ∧ Shape i root) ∧ Aside0 (w'.heap[w2.heap.size]? = some threeO ∧ Below w.heap.size w w'))
  case atStart => exact ⟨0, tb, emptyN b m, rfl, rfl, ⟨by omega⟩, ⟨HT0.out, good_empty b m, ⟨b, m, rfl⟩⟩, ⟨heap_alloc_new w2 _, H1.out.2.alloc H1.out.2.size _⟩⟩
  case round =>
    obtain ⟨i, tb, root, rfl, rfl, HI, HT, HB⟩ := hrel
    by_cases hi : i < 3
    · have cc := three_cell HB.out.1 i hi
      have hsn := shape_next i hi root HT.out.2.2
      have q2 := treeInsert wr tb root (i : Int) (7 + (i : Int)) (key3 i) HT.out.1 HT.out.2.1.ok HT.out.2.1.sm (key3_size i) (by omega) (by omega)
      have HSN := Aside0.mk hsn
      have hks := key3_size i
      rw [hsn.1] at q2
      obtain ⟨k, ek⟩ : ∃ k, key3 i = k := ⟨_, rfl⟩
      rw [ek] at q2 cc HSN hks
      have q3 := Aside0.mk q2
      clear hsn q2 ek
      unfold ptr at q3
      go_wp2_with (go_at_call 43; refine q3.out.mono ?_)
      rintro e w3 ⟨tb2, lb, m2, ns, had, old, rfl, ht, ho, h1, h2, h3, h4, h5⟩
      have eh : had = false := by simpa [hadOld] using congrArg Prod.fst ho
      subst eh
      have H2 := Aside0.mk (And.intro ht h5)
      clear ht ho h1 h2 h3 h4 h5 q3
      go_wp2_with fail
      go_roundg (3 - i)
      case measure => have := HI.out; omega
      case rel =>
        refine ⟨i + 1, tb2, _, rfl, by simp, ⟨by have := HI.out; omega⟩, ⟨?_, good_ins HT.out.2.1 k hks ⟨lb, k, .int .i64 (7 + (i : Int)), m2⟩ rfl ns, HSN.out.2 _ ns rfl rfl⟩, ⟨(Kept.of H2.out.2).at HB.out.1, HB.out.2.trans ⟨H2.out.2.os, H2.out.2.tape, H2.out.2.output, H2.out.2.size, fun x hx => H2.out.2.block x (by have := HB.out.2.size; omega)⟩⟩⟩
        have := H2.out.1
        exact this
    · have hi3 : i = 3 := by have := HI.out; omega
      subst hi3
      obtain ⟨b0, b1, b2, b3, b4, l0, l1, l2, m0, m1, m2, m3, m4, er, ek, ev⟩ := HT.out.2.2
      have q2 := treeLongest wr tb root 3 ⟨#[97, 98, 100]⟩ HT.out.1 HT.out.2.1.ok HT.out.2.1.sm HT.out.2.1.top (by decide)
      have el : longN root ⟨#[97, 98, 100]⟩ = some l0 := by rw [er]; exact long3 _ _ _ _ _ _ _ _ _ _ _ _ _
      have et : toldV (some l0) = .tuple #[.string ⟨#[97, 98]⟩, .int .i64 7, .bool true] := by show Value.tuple #[.string l0.key, l0.val, .bool true] = _; rw [ek, ev]; rfl
      rw [el, et] at q2
      have ere : reachN root ⟨#[97, 121]⟩ = 1 := by rw [er]; exact reach3 _ _ _ _ _ _ _ _ _ _ _ _ _
      have HE := Aside0.mk ere
      have q3 := Aside0.mk q2
      clear q2 el et er ek ev ere
      unfold ptr at q3
      go_wp2_with (go_at_call 33; refine q3.out.mono ?_)
      rintro e w3 ⟨rfl, B3⟩
      have ht3 := HT.out.1.keep (Kept.of B3)
      have q4 := Aside0.mk (treeLen w3 tb root 3 ht3)
      have q5 := treeReach w3 tb root 3 ⟨#[97, 121]⟩ ht3 HT.out.2.1.ok HT.out.2.1.sm HT.out.2.1.top (by decide)
      rw [HE.out] at q5
      have exr : (⟨#[97, 121]⟩ : ByteArray).extract 0 1 = ⟨#[97]⟩ := by decide
      rw [exr] at q5
      have q6 := Aside0.mk q5
      have HB3 := Aside0.mk B3
      clear B3 ht3 q5 q3 exr
      unfold ptr at q4 q6
      go_wp2_with (first
        | (go_at_call 50; refine q4.out.mono ?_; rintro e w4 ⟨rfl, hw4⟩; subst hw4)
        | (go_at_call 89; refine q6.out.mono ?_; rintro e w5 ⟨rfl, _, B5⟩; have HB5 := Aside0.mk B5; clear B5))
      go_ret
      have hs3 := HB.out.2.size
      exact ⟨rfl, (HB.out.2.trans ⟨HB3.out.os, HB3.out.tape, HB3.out.output, HB3.out.size, fun x hx => HB3.out.block x (by omega)⟩).trans ⟨HB5.out.os, HB5.out.tape, HB5.out.output, HB5.out.size, fun x hx => HB5.out.block x (by have := HB3.out.size; omega)⟩⟩
end Go.Proofs.Ytjhgknagmiekeaa.T
set_option linter.unusedVariables false
set_option linter.unusedSimpArgs false
namespace Go.Proofs.Ytjhgknagmiekeaa.G
open Go.RowKit Go.Lib Go.Proofs Go.Conc
open Go.Proofs.YtjhgknagmiekeaaW.PrintWords hiding Kept
open Go.Proofs.YtjhgknagmiekeaaW.PrintLast
open Go.Proofs.Ytjhgknagmiekeaa.T (Nd Tr L ptr All valT Strs findT markN watchN gotV)
def wk3_T : Bool × List (List Nat × List Nat) := (true, [([], []), ([0], [0]), ([], []), ([2], [2]), ([], []), ([4], [4]), ([1, 0, 1], [1]), ([3, 6, 0, 1, 2, 3, 6], [3]), ([5, 7, 0, 1, 2, 3, 4, 5, 6, 7], [5])])
def wk3_B : List Nat := [0, 1, 0, 4, 0, 16, 3, 79, 255]
theorem wk3_bits : waitsOk wk3_T.2 wk3_B = true := by kernel_rfl
theorem wk3_tab : rtab .any (opsOf Try.f16 3) = wk3_T := by kernel_rfl
def wk23_T : Bool × List (List Nat × List Nat) := (true, [([], []), ([0], [0]), ([1], [1]), ([2, 1], [2]), ([3], [3]), ([4, 3, 3], [3, 4]), ([5], [5]), ([6, 5, 5], [5, 6]), ([5], [5]), ([5], [5]), ([5], [5]), ([10, 5], [5, 10]), ([9, 11, 5], [5, 9, 11]), ([8, 12, 5], [5, 8, 12]), ([7, 13, 5], [5, 7, 13]), ([5, 14, 3], [3, 5, 14]), ([3, 15], [3, 15])])
def wk23_B : List Nat := [0, 1, 3, 7, 15, 31, 63, 127, 63, 63, 63, 1087, 3647, 7999, 16383, 32767, 65535]
theorem wk23_bits : waitsOk wk23_T.2 wk23_B = true := by kernel_rfl
theorem wk23_tab : rtab .any (opsOf Try.f16 23) = wk23_T := by kernel_rfl
attribute [local go_sem] Oper.semAt_some
set_option maxRecDepth 100000 in
set_option maxHeartbeats 8000000 in
theorem wakesLaw (w : World) (A B : Option Addr) (cA cB : Nat) (ks os : List ByteArray) (p more k : ByteArray) (hA : Strs w A ks) (hB : Strs w B os) (hkl : ks.length < 1000000000) (hol : os.length < 1000000000) (hks : ∀ x ∈ ks, x.size < 4000000000000) (hos : ∀ x ∈ os, x.size < 4000000000000) (hp : p.size < 1000000000000) (hmo : more.size < 1000000000000) (hk : k.size < 1000000000000) :
    Calls Try.prog 16 #[.agg #[.slice A ks.length cA, .slice B os.length cB, .string p, .string more, .string k]] w fun e w' => e = .returned (.bool true) ∧ Below w.heap.size w w' := by
  have qa := Aside0.mk (fun W => T.alive W)
  have qb := Aside0.mk (fun w1 (h : Below w.heap.size w w1) => builtW w1 A cA ks (hA.keep (T.Kept.of h)) (by omega) hks)
  have HS := Aside0.mk (And.intro hos hB)
  obtain ⟨n, en⟩ : ∃ n, ks.length = n := ⟨_, rfl⟩
  obtain ⟨N, eN⟩ : ∃ N, os.length = N := ⟨_, rfl⟩
  have HN := Aside0.mk (And.intro en eN)
  rw [en] at qb hkl ⊢
  rw [eN] at hol ⊢
  clear hA hB hks hos en eN
  unfold ptr at qb
  go_enter Try.func16, Try.ntmps16
  go_wp2_with fail
  obtain ⟨C, eC⟩ : ∃ C, w.heap.size = C := ⟨_, rfl⟩
  obtain ⟨W0, eW0⟩ : ∃ W0, w.alloc (Obj.cells #[.slice A n cA, .slice B N cB, .string p, .string more, .string k] 89) = W0 := ⟨_, rfl⟩
  have H0 : Aside0 (W0.heap[C]? = some (.cells #[.slice A n cA, .slice B N cB, .string p, .string more, .string k] 89 (0, 0)) ∧ Below w.heap.size w W0 ∧ w.heap.size = C) := ⟨by rw [← eW0, ← eC]; exact heap_alloc_new w _, by rw [← eW0]; exact (Below.refl _ w).alloc (Nat.le_refl _) _, eC⟩
  rw [eW0, eC]
  clear eW0 eC
  go_at_call 36
  refine (qa.out W0).mono ?_
  rintro e w1 ⟨rfl, hb1⟩
  have hC1 := (hb1.block _ (Array.getElem?_eq_some_iff.1 H0.out.1).1).trans H0.out.1
  have HB1 := Aside0.mk (T.belowAt H0.out.2.1 hb1)
  have HC1 := Aside0.mk hC1
  have c1 : w1.cell? ⟨C, 1, none⟩ = some (.slice B N cB) := by rw [blk_cell hC1]; rfl
  have c2 : w1.cell? ⟨C, 2, none⟩ = some (.string p) := by rw [blk_cell hC1]; rfl
  have c4 : w1.cell? ⟨C, 4, none⟩ = some (.string k) := by rw [blk_cell hC1]; rfl
  clear hb1 hC1 qa
  go_upto_region 3 with fail
  refine start_ (n := 9) (S := (fun Z => Z.cell? ⟨C, 2, none⟩ = some (.string p) ∧ Z.cell? ⟨C, 4, none⟩ = some (.string k) ∧ Z.cell? ⟨C, 1, none⟩ = some (.slice B N cB))) (ds := []) #[false, false, false, false, false, false, false, false, false] (by kernel_rfl) rfl rfl ⟨c2, c4, c1⟩ (fun hHeld => ?_); refine with_tabW wk3_tab wk3_bits (fun HT_ HW_ => ?_)
  refine pure_ (i := 0) (N := some 15) (v := ?_) (a' := ?_) #[true, false, false, false, false, false, false, false, false] rfl rfl (any_of HT_.out (by kernel_rfl)) (fun _ _ _ h => h) (Or.inl ⟨by rfl, ?_⟩) ?_ ?_
  rotate_left
  · intro w'
    go_simp
    with_reducible rfl
  rotate_left
  · simp only [Act.put, List.setIfInBounds_toArray, List.set_cons_zero, List.set_cons_succ, i64_w, i32_w]
    rfl
  refine pure_ (i := 2) (N := some 17) (v := ?_) (a' := ?_) #[true, false, true, false, false, false, false, false, false] rfl rfl (any_of HT_.out (by kernel_rfl)) (fun _ _ _ h => h) (Or.inl ⟨by rfl, ?_⟩) ?_ ?_
  rotate_left
  · intro w'
    go_simp
    with_reducible rfl
  rotate_left
  · simp only [Act.put, List.setIfInBounds_toArray, List.set_cons_zero, List.set_cons_succ, i64_w, i32_w]
    rfl
  refine pure_ (i := 4) (N := some 19) (v := ?_) (a' := ?_) #[true, false, true, false, true, false, false, false, false] rfl rfl (any_of HT_.out (by kernel_rfl)) (fun _ _ _ h => h) (Or.inl ⟨by rfl, ?_⟩) ?_ ?_
  rotate_left
  · intro w'
    go_simp
    with_reducible rfl
  rotate_left
  · simp only [Act.put, List.setIfInBounds_toArray, List.set_cons_zero, List.set_cons_succ, i64_w, i32_w]
    rfl
  refine take_ (i := 1) (N := some 16) (v := ?_) (a' := ?_) #[true, true, true, false, true, false, false, false, false] rfl rfl (take_ofW HT_.out HW_.out (by kernel_rfl)) (fun _ _ _ h => h) (Or.inl ⟨by rfl, ?_⟩) hHeld ?_ ?_
  rotate_left
  · rintro w' ⟨s0, s1, s2⟩
    go_simp
    with_reducible rfl
  rotate_left
  · simp only [Act.put, List.setIfInBounds_toArray, List.set_cons_zero, List.set_cons_succ, i64_w, i32_w]
    rfl
  refine take_ (i := 3) (N := some 18) (v := ?_) (a' := ?_) #[true, true, true, true, true, false, false, false, false] rfl rfl (take_ofW HT_.out HW_.out (by kernel_rfl)) (fun _ _ _ h => h) (Or.inl ⟨by rfl, ?_⟩) hHeld ?_ ?_
  rotate_left
  · rintro w' ⟨s0, s1, s2⟩
    go_simp
    with_reducible rfl
  rotate_left
  · simp only [Act.put, List.setIfInBounds_toArray, List.set_cons_zero, List.set_cons_succ, i64_w, i32_w]
    rfl
  refine take_ (i := 5) (N := some 20) (v := ?_) (a' := ?_) #[true, true, true, true, true, true, false, false, false] rfl rfl (take_ofW HT_.out HW_.out (by kernel_rfl)) (fun _ _ _ h => h) (Or.inl ⟨by rfl, ?_⟩) hHeld ?_ ?_
  rotate_left
  · rintro w' ⟨s0, s1, s2⟩
    go_simp
    with_reducible rfl
  rotate_left
  · simp only [Act.put, List.setIfInBounds_toArray, List.set_cons_zero, List.set_cons_succ, i64_w, i32_w]
    rfl
  refine pure_ (i := 6) (N := some 3) (v := ?_) (a' := ?_) #[true, true, true, true, true, true, true, false, false] rfl rfl (any_of HT_.out (by kernel_rfl)) (fun _ _ _ h => h) (Or.inl ⟨by rfl, ?_⟩) ?_ ?_
  rotate_left
  · intro w'
    go_simp
    with_reducible rfl
  rotate_left
  · simp only [Act.put, List.setIfInBounds_toArray, List.set_cons_zero, List.set_cons_succ, i64_w, i32_w]
    rfl
  refine pure_ (i := 7) (N := some 4) (v := ?_) (a' := ?_) #[true, true, true, true, true, true, true, true, false] rfl rfl (any_of HT_.out (by kernel_rfl)) (fun _ _ _ h => h) (Or.inl ⟨by rfl, ?_⟩) ?_ ?_
  rotate_left
  · intro w'
    go_simp
    with_reducible rfl
  rotate_left
  · simp only [Act.put, List.setIfInBounds_toArray, List.set_cons_zero, List.set_cons_succ, i64_w, i32_w]
    rfl
  refine pure_ (i := 8) (N := some 5) (v := ?_) (a' := ?_) #[true, true, true, true, true, true, true, true, true] rfl rfl (any_of HT_.out (by kernel_rfl)) (fun _ _ _ h => h) (Or.inl ⟨by rfl, ?_⟩) ?_ ?_
  rotate_left
  · intro w'
    go_simp
    with_reducible rfl
  rotate_left
  · simp only [Act.put, List.setIfInBounds_toArray, List.set_cons_zero, List.set_cons_succ, i64_w, i32_w]
    rfl
  refine done_ (done_of HT_.out (by kernel_rfl)) ?_
  clear HT_ HW_ hHeld c1 c2 c4
  have HBd := Aside0.mk (T.belowAt HB1.out (below_drew (Below.refl w1.heap.size w1)))
  have HCd : Aside0 (w1.drew.heap[C]? = some (.cells #[.slice A n cA, .slice B N cB, .string p, .string more, .string k] 89 (0, 0))) := ⟨HC1.out⟩
  obtain ⟨w2, e2⟩ : ∃ w2, w1.drew = w2 := ⟨_, rfl⟩
  rw [e2] at HBd HCd
  (try rw [e2])
  have HE2 := Aside0.mk e2
  clear e2
  have c0 : w2.cell? ⟨C, 0, none⟩ = some (.slice A n cA) := by rw [blk_cell HCd.out]; rfl
  have q37 := Aside0.mk (qb.out w2 HBd.out)
  clear qb
  go_wp2_with fail
  go_at_call 37
  refine q37.out.mono ?_
  rintro e w3 ⟨tb, root, rfl, ht, hl, hR, hLo, hb3⟩
  obtain ⟨cu, co, e1, e2, HI3⟩ := WakeI.start ht hR hLo p k
  have hfar : ∀ m ∈ mks root, w.heap.size ≤ chOf m := fun m hm => Nat.le_trans HBd.out.size (hR.far m hm)
  obtain ⟨there, eth⟩ : ∃ b, (findT root (L k)).isSome = b := ⟨_, rfl⟩
  rw [eth] at HI3
  have q58 := T.treeUnder w3 tb root ht p (by omega)
  rw [e1] at q58
  have Q58 := Aside0.mk q58
  have Q59 := Aside0.mk (fun W (hb : Below w3.heap.size w3 W) => T.treeWatch W tb root (HI3.below hb).tr (HI3.below hb).mrk k (by omega))
  rw [e2] at Q59
  have HB3 := Aside0.mk (T.belowAt HBd.out hb3)
  have HC3 : Aside0 (w3.heap[C]? = some (.cells #[.slice A n cA, .slice B N cB, .string p, .string more, .string k] 89 (0, 0))) := ⟨(hb3.block _ (Array.getElem?_eq_some_iff.1 HCd.out).1).trans HCd.out⟩
  have H3 := Aside0.mk (And.intro HI3 (And.intro hl (And.intro hfar eth)))
  clear c0 q37 ht hl hR hLo hb3 e1 e2 HI3 hfar eth q58
  unfold ptr at Q58 Q59
  go_wp2_with fail
  go_at_call 58
  refine Q58.out.mono ?_
  rintro e w4 ⟨rfl, hb4⟩
  have HB4 := Aside0.mk hb4
  clear hb4 Q58
  go_wp2_with fail
  go_at_call 59
  refine (Q59.out w4 HB4.out).mono ?_
  rintro e w5 ⟨rfl, hb5⟩
  have HB5 := Aside0.mk (T.belowAt HB4.out hb5)
  have q60 := Aside0.mk (firedC w5 (cu + 1) cu false (H3.out.1.below HB5.out).wu)
  have q61 := Aside0.mk (firedC w5 (co + 1) co false (H3.out.1.below HB5.out).wo)
  have q35 := T.getC w5 tb root (H3.out.1.below HB5.out).tr k (by omega)
  obtain ⟨gx, eg⟩ := got_form (H3.out.1.tr.vals) (L k)
  rw [eg, H3.out.2.2.2] at q35
  have Q35 := Aside0.mk q35
  clear hb5 Q59 q35 eg
  unfold ptr at Q35
  go_wp2_with fail
  go_at_call 60
  refine q60.out.mono ?_
  rintro e w6 ⟨rfl, hw⟩
  subst hw
  go_wp2_with fail
  go_at_call 60
  refine q61.out.mono ?_
  rintro e w7 ⟨rfl, hw⟩
  subst hw
  clear q60 q61
  go_wp2_with fail
  go_at_call 35
  refine Q35.out.mono ?_
  rintro e w8 ⟨rfl, hb8⟩
  have HB8 := Aside0.mk (T.belowAt HB5.out hb8)
  clear hb8 Q35
  have HI8 : Aside0 (WakeI w8 tb root p k there cu co false false) := ⟨H3.out.1.below HB8.out⟩
  have HC8 : Aside0 (w8.heap[C]? = some (.cells #[.slice A n cA, .slice B N cB, .string p, .string more, .string k] 89 (0, 0))) := ⟨(HB8.out.block _ (Array.getElem?_eq_some_iff.1 HC3.out).1).trans HC3.out⟩
  go_wp2_with fail
  go_loopg [6, 54] (N + 1) (fun kq v6 v54 w' => ∃ (i tb : Nat) (root : Nd) (du dd : Bool), v6 = .pointer (some ⟨tb, 0, none⟩) ∧ v54 = .int .i64 (i : Int) ∧ Aside0 (i + kq = N + 1 ∧ i ≤ N) ∧ Aside0 (WakeI w' tb root p k there cu co du dd ∧ (All root).length ≤ n + i ∧ (∀ m ∈ mks root, w.heap.size ≤ chOf m)) ∧ Aside0 (Below w.heap.size w w' ∧ w'.heap[C]? = some (.cells #[.slice A n cA, .slice B N cB, .string p, .string more, .string k] 89 (0, 0))))
  case atStart => exact ⟨0, tb, root, false, false, rfl, rfl, ⟨by omega⟩, ⟨HI8.out, H3.out.2.1, H3.out.2.2.1⟩, ⟨T.belowAt HB3.out HB8.out, HC8.out⟩⟩
  case round =>
    clear HB1 HC1 HCd HBd HE2 HB4 HB5 HB8 HI8 HC8 HC3 HB3
    obtain ⟨i, tb, root, du, dd, rfl, rfl, HI, HT, HB⟩ := hrel
    by_cases hi : i < N
    · have hi' : i < os.length := by rw [HN.out.2]; exact hi
      obtain ⟨ad, ea, ka⟩ := (HS.out.2.keep (T.Kept.of HB.out.1)) i hi'
      obtain ⟨o, ek⟩ : ∃ o, os[i] = o := ⟨_, rfl⟩
      rw [ek] at ka
      have hos : o.size < 4000000000000 := HS.out.1 o (by rw [← ek]; exact List.getElem_mem _)
      subst ea
      clear ek hi'
      by_cases hok : (o.toList == k.toList) = true
      · by_cases h1 : (p.size : Int) ≤ (o.size : Int)
        · by_cases h2 : ((o.extract 0 p.size).toList == p.toList) = true
          ·
            go_wp2_with fail
            go_roundg (N - i)
            case measure => have := HI.out; omega
            case rel => exact ⟨i + 1, tb, root, du, dd, rfl, by simp, ⟨by have := HI.out; omega⟩, ⟨HT.out.1, by have := HT.out.2.1; omega, HT.out.2.2⟩, ⟨HB.out⟩⟩
          · rw [Bool.not_eq_true] at h2
            go_wp2_with fail
            go_roundg (N - i)
            case measure => have := HI.out; omega
            case rel => exact ⟨i + 1, tb, root, du, dd, rfl, by simp, ⟨by have := HI.out; omega⟩, ⟨HT.out.1, by have := HT.out.2.1; omega, HT.out.2.2⟩, ⟨HB.out⟩⟩
        ·
          go_wp2_with fail
          go_roundg (N - i)
          case measure => have := HI.out; omega
          case rel => exact ⟨i + 1, tb, root, du, dd, rfl, by simp, ⟨by have := HI.out; omega⟩, ⟨HT.out.1, by have := HT.out.2.1; omega, HT.out.2.2⟩, ⟨HB.out⟩⟩
      · rw [Bool.not_eq_true] at hok
        have HNE : Aside0 (L o ≠ L k) := ⟨fun e => by rw [L_inj e] at hok; simp at hok⟩
        by_cases h1 : (p.size : Int) ≤ (o.size : Int)
        · by_cases h2 : ((o.extract 0 p.size).toList == p.toList) = true
          ·
            go_wp2_with fail
            go_roundg (N - i)
            case measure => have := HI.out; omega
            case rel => exact ⟨i + 1, tb, root, du, dd, rfl, by simp, ⟨by have := HI.out; omega⟩, ⟨HT.out.1, by have := HT.out.2.1; omega, HT.out.2.2⟩, ⟨HB.out⟩⟩
          · rw [Bool.not_eq_true] at h2
            go_upto_region 15 with fail
            obtain ⟨D, eD⟩ : ∃ D, wr.heap.size = D := ⟨_, rfl⟩
            obtain ⟨V, eV⟩ : ∃ V, wr.alloc (Obj.cells #[.string o] 9) = V := ⟨_, rfl⟩
            have HV : Aside0 (V.heap[D]? = some (.cells #[.string o] 9 (0, 0)) ∧ Below wr.heap.size wr V) := ⟨by rw [← eV, ← eD]; exact heap_alloc_new wr _, by rw [← eV]; exact (Below.refl _ wr).alloc (Nat.le_refl _) _⟩
            have hIV := HT.out.1.below HV.out.2
            have HIV := Aside0.mk hIV
            have q61 := Aside0.mk (fun cc => fireOne V tb root hIV.tr hIV.mrk D cc o HV.out.1 (by omega))
            clear hIV
            unfold ptr at q61
            go_wp2_with fail
            (try rw [eV, eD])
            clear eV eD
            go_at_call 61
            refine (q61.out _).mono ?_
            rintro e w9 ⟨⟨fx, rfl⟩, hsh⟩
            have hst := shot_tree hsh HIV.out.tr HIV.out.mrk
            have q43 := insW w9 tb root hst.1 hst.2 HIV.out.lone o 1 (by omega) (by have := HT.out.2.1; omega)
            obtain ⟨ov, eo⟩ : ∃ ov, valT root (L o) = ov := ⟨_, rfl⟩
            rw [eo] at q43
            have HF : Aside0 (∀ tb' : Nat, ∃ a b, T.wasV tb' ov = .tuple #[ptr tb', a, .bool b]) := ⟨fun tb' => by cases ov <;> exact ⟨_, _, rfl⟩⟩
            have Q43 := Aside0.mk q43
            have HSH := Aside0.mk hsh
            clear hsh hst q43 eo q61
            unfold ptr at Q43
            go_wp2_with fail
            go_at_call 43
            refine Q43.out.mono ?_
            rintro e w10 ⟨tb2, root2, rfl, ht, -, hl, hM2, hnew, hLo2, hkeep, hfind, hb10⟩
            obtain ⟨fa, fb, efab⟩ := HF.out tb2
            unfold ptr at efab
            rw [efab]
            obtain ⟨du2, dd2, hI2⟩ := HIV.out.round HSH.out HNE.out ht hM2 hLo2 hkeep hfind hb10
            have hBV : Below w.heap.size w V := T.belowAt HB.out.1 HV.out.2
            have hB9 : Below w.heap.size w w9 := hBV.trans (shot_below HSH.out hBV.size HT.out.2.2)
            have hB10 : Below w.heap.size w w10 := T.belowAt hB9 hb10
            have hC9 := HSH.out.farP _ _ _ _ ((HV.out.2.block _ (Array.getElem?_eq_some_iff.1 HB.out.2).1).trans HB.out.2) rfl
            have hC10 := (hb10.block _ (Array.getElem?_eq_some_iff.1 hC9).1).trans hC9
            have hfar2 : ∀ m ∈ mks root2, w.heap.size ≤ chOf m := fun m hm => by
              rcases hnew m hm with h | ⟨c, e, hc, -⟩
              · exact HT.out.2.2 m h
              · rw [e]; exact Nat.le_trans hB9.size hc
            have H10 := Aside0.mk (And.intro hI2 (And.intro hl (And.intro hfar2 (And.intro hB10 hC10))))
            clear ht hl hM2 hnew hLo2 hkeep hfind hb10 efab hI2 hBV hB9 hB10 hC9 hC10 hfar2 HF Q43
            go_wp2_with fail
            go_roundg (N - i)
            case measure => have := HI.out; omega
            case rel => exact ⟨i + 1, tb2, root2, du2, dd2, rfl, by simp, ⟨by have := HI.out; omega⟩, ⟨H10.out.1, by have := HT.out.2.1; have := H10.out.2.1; omega, H10.out.2.2.1⟩, ⟨H10.out.2.2.2.1, H10.out.2.2.2.2⟩⟩
        ·
          go_upto_region 15 with fail
          obtain ⟨D, eD⟩ : ∃ D, wr.heap.size = D := ⟨_, rfl⟩
          obtain ⟨V, eV⟩ : ∃ V, wr.alloc (Obj.cells #[.string o] 9) = V := ⟨_, rfl⟩
          have HV : Aside0 (V.heap[D]? = some (.cells #[.string o] 9 (0, 0)) ∧ Below wr.heap.size wr V) := ⟨by rw [← eV, ← eD]; exact heap_alloc_new wr _, by rw [← eV]; exact (Below.refl _ wr).alloc (Nat.le_refl _) _⟩
          have hIV := HT.out.1.below HV.out.2
          have HIV := Aside0.mk hIV
          have q61 := Aside0.mk (fun cc => fireOne V tb root hIV.tr hIV.mrk D cc o HV.out.1 (by omega))
          clear hIV
          unfold ptr at q61
          go_wp2_with fail
          (try rw [eV, eD])
          clear eV eD
          go_at_call 61
          refine (q61.out _).mono ?_
          rintro e w9 ⟨⟨fx, rfl⟩, hsh⟩
          have hst := shot_tree hsh HIV.out.tr HIV.out.mrk
          have q43 := insW w9 tb root hst.1 hst.2 HIV.out.lone o 1 (by omega) (by have := HT.out.2.1; omega)
          obtain ⟨ov, eo⟩ : ∃ ov, valT root (L o) = ov := ⟨_, rfl⟩
          rw [eo] at q43
          have HF : Aside0 (∀ tb' : Nat, ∃ a b, T.wasV tb' ov = .tuple #[ptr tb', a, .bool b]) := ⟨fun tb' => by cases ov <;> exact ⟨_, _, rfl⟩⟩
          have Q43 := Aside0.mk q43
          have HSH := Aside0.mk hsh
          clear hsh hst q43 eo q61
          unfold ptr at Q43
          go_wp2_with fail
          go_at_call 43
          refine Q43.out.mono ?_
          rintro e w10 ⟨tb2, root2, rfl, ht, -, hl, hM2, hnew, hLo2, hkeep, hfind, hb10⟩
          obtain ⟨fa, fb, efab⟩ := HF.out tb2
          unfold ptr at efab
          rw [efab]
          obtain ⟨du2, dd2, hI2⟩ := HIV.out.round HSH.out HNE.out ht hM2 hLo2 hkeep hfind hb10
          have hBV : Below w.heap.size w V := T.belowAt HB.out.1 HV.out.2
          have hB9 : Below w.heap.size w w9 := hBV.trans (shot_below HSH.out hBV.size HT.out.2.2)
          have hB10 : Below w.heap.size w w10 := T.belowAt hB9 hb10
          have hC9 := HSH.out.farP _ _ _ _ ((HV.out.2.block _ (Array.getElem?_eq_some_iff.1 HB.out.2).1).trans HB.out.2) rfl
          have hC10 := (hb10.block _ (Array.getElem?_eq_some_iff.1 hC9).1).trans hC9
          have hfar2 : ∀ m ∈ mks root2, w.heap.size ≤ chOf m := fun m hm => by
            rcases hnew m hm with h | ⟨c, e, hc, -⟩
            · exact HT.out.2.2 m h
            · rw [e]; exact Nat.le_trans hB9.size hc
          have H10 := Aside0.mk (And.intro hI2 (And.intro hl (And.intro hfar2 (And.intro hB10 hC10))))
          clear ht hl hM2 hnew hLo2 hkeep hfind hb10 efab hI2 hBV hB9 hB10 hC9 hC10 hfar2 HF Q43
          go_wp2_with fail
          go_roundg (N - i)
          case measure => have := HI.out; omega
          case rel => exact ⟨i + 1, tb2, root2, du2, dd2, rfl, by simp, ⟨by have := HI.out; omega⟩, ⟨H10.out.1, by have := HT.out.2.1; have := H10.out.2.1; omega, H10.out.2.2.1⟩, ⟨H10.out.2.2.2.1, H10.out.2.2.2.2⟩⟩
    · have hin : i = N := by have := HI.out; omega
      have c3 : wr.cell? ⟨C, 3, none⟩ = some (.string more) := by rw [blk_cell HB.out.2]; rfl
      clear H3 HI hi
      rcases HT.out.1.own with ⟨eth, edd, hlf⟩ | ⟨eth, hno⟩
      · subst eth
        subst edd
        have q60 := Aside0.mk (firedC wr (co + 1) co false HT.out.1.wo)
        clear hlf
        go_wp2_with fail
        go_at_call 60
        refine q60.out.mono ?_
        rintro e w6 ⟨rfl, hw⟩
        subst hw
        clear q60
        have hpc : (p ++ more).size < 4000000000000 := by rw [ByteArray.size_append]; omega
        have hns : ¬ 9223372036854775807 < p.size + more.size := by omega
        obtain ⟨q, eq⟩ : ∃ q, p ++ more = q := ⟨_, rfl⟩
        rw [eq] at hpc
        have HEQ := Aside0.mk eq
        obtain ⟨D, eD⟩ : ∃ D, w6.heap.size = D := ⟨_, rfl⟩
        obtain ⟨V, eV⟩ : ∃ V, w6.alloc (Obj.cells #[.string q] 9) = V := ⟨_, rfl⟩
        have HV : Aside0 (V.heap[D]? = some (.cells #[.string q] 9 (0, 0)) ∧ Below w6.heap.size w6 V) := ⟨by rw [← eV, ← eD]; exact heap_alloc_new w6 _, by rw [← eV]; exact (Below.refl _ w6).alloc (Nat.le_refl _) _⟩
        have HIV := Aside0.mk (HT.out.1.below HV.out.2)
        have q61 := Aside0.mk (fun cc => fireOne V tb root HIV.out.tr HIV.out.mrk D cc q HV.out.1 (by omega))
        unfold ptr at q61
        go_wp2_with fail
        (try rw [eV, eD])
        (try clear eV)
        (try clear eD)
        go_at_call 61
        refine (q61.out _).mono ?_
        rintro e w9 ⟨⟨fx, rfl⟩, hsh⟩
        obtain ⟨ht9, hM9, hwu9, d2, hwo9, hd2, hlast⟩ := HIV.out.under hsh (by rw [← HEQ.out, T.L_append]; exact List.prefix_append _ _)
        have hBV : Below w.heap.size w V := T.belowAt HB.out.1 HV.out.2
        have hB9 : Below w.heap.size w w9 := hBV.trans (shot_below hsh hBV.size HT.out.2.2)
        have hC9 := hsh.farP _ _ _ _ ((HV.out.2.block _ (Array.getElem?_eq_some_iff.1 HB.out.2).1).trans HB.out.2) rfl
        have ed2 : d2 = (k.toList == q.toList) := (hd2 rfl).trans (beq_q k q).symm
        obtain ⟨bq, ebq⟩ : ∃ b, (k.toList == q.toList) = b := ⟨_, rfl⟩
        rw [ebq] at ed2
        subst ed2
        have c9 : w9.cell? ⟨C, 3, none⟩ = some (.string more) := by rw [blk_cell hC9]; rfl
        have q60u := Aside0.mk (firedC w9.drew (cu + 1) cu true ⟨hwu9.obj, hwu9.ch⟩)
        have q60o := Aside0.mk (firedC w9.drew (co + 1) co d2 ⟨hwo9.obj, hwo9.ch⟩)
        have H9 := Aside0.mk (And.intro ht9 (And.intro hM9 (And.intro hwo9 (And.intro hd2 (And.intro hlast (And.intro hB9 HT.out.2.2))))))
        clear hsh ht9 hM9 hwu9 hwo9 hd2 hlast hBV hB9 hC9 q61 c3
        go_upto_region 23 with fail
        refine start_ (n := 17) (S := (fun Z => Z.cell? ⟨C, 3, none⟩ = some (.string more))) (ds := []) #[false, false, false, false, false, false, false, false, false, false, false, false, false, false, false, false, false] (by kernel_rfl) rfl rfl c9 (fun hHeld => ?_); refine with_tabW wk23_tab wk23_bits (fun HT_ HW_ => ?_)
        refine pure_ (i := 0) (N := some 102) (v := ?_) (a' := ?_) #[true, false, false, false, false, false, false, false, false, false, false, false, false, false, false, false, false] rfl rfl (any_of HT_.out (by kernel_rfl)) (fun _ _ _ h => h) (Or.inl ⟨by rfl, ?_⟩) ?_ ?_
        rotate_left
        · intro w'
          go_simp
          with_reducible rfl
        rotate_left
        · simp only [Act.put, List.setIfInBounds_toArray, List.set_cons_zero, List.set_cons_succ, i64_w, i32_w]
          rfl
        refine one_ (i := 1) (N := some 103) #[true, true, false, false, false, false, false, false, false, false, false, false, false, false, false, false, false] rfl rfl (one_of HT_.out (by kernel_rfl)) (by decide) (fun K hK => ?_)
        refine goes_ Try.func60 (by kernel_rfl) rfl #[.pointer (some ⟨cu + 1, 0, none⟩)] (by rfl) rfl rfl (by (try simp only [List.map_toArray, List.map_cons, List.map_nil]); first | done | rfl) ?_
        refine q60u.out.mono ?_
        rintro e w10 ⟨rfl, hw10⟩
        subst hw10
        refine ⟨_, rfl, ?_⟩
        clear hHeld
        refine hK.out _ _ c9 (fun hHeld => ?_)
        clear hK K
        refine norm_ (a' := ?_) ?_ ?_
        rotate_left
        · show Act.put _ (some 103) _ = _
          simp only [Act.put, List.setIfInBounds_toArray, List.set_cons_zero, List.set_cons_succ, i64_w, i32_w]
          rfl
        refine pure_ (i := 2) (N := some 104) (v := ?_) (a' := ?_) #[true, true, true, false, false, false, false, false, false, false, false, false, false, false, false, false, false] rfl rfl (any_of HT_.out (by kernel_rfl)) (fun _ _ _ h => h) (Or.inl ⟨by rfl, ?_⟩) ?_ ?_
        rotate_left
        · intro w'
          go_simp
          with_reducible rfl
        rotate_left
        · simp only [Act.put, List.setIfInBounds_toArray, List.set_cons_zero, List.set_cons_succ, i64_w, i32_w]
          rfl
        refine pure_ (i := 3) (N := some 105) (v := ?_) (a' := ?_) #[true, true, true, true, false, false, false, false, false, false, false, false, false, false, false, false, false] rfl rfl (any_of HT_.out (by kernel_rfl)) (fun _ _ _ h => h) (Or.inl ⟨by rfl, ?_⟩) ?_ ?_
        rotate_left
        · intro w'
          go_simp
          with_reducible rfl
        rotate_left
        · simp only [Act.put, List.setIfInBounds_toArray, List.set_cons_zero, List.set_cons_succ, i64_w, i32_w]
          rfl
        refine pure_ (i := 4) (N := some 106) (v := ?_) (a' := ?_) #[true, true, true, true, true, false, false, false, false, false, false, false, false, false, false, false, false] rfl rfl (any_of HT_.out (by kernel_rfl)) (fun _ _ _ h => h) (Or.inl ⟨by rfl, ?_⟩) ?_ ?_
        rotate_left
        · intro w'
          go_simp
          with_reducible rfl
        rotate_left
        · simp only [Act.put, List.setIfInBounds_toArray, List.set_cons_zero, List.set_cons_succ, i64_w, i32_w]
          rfl
        refine pure_ (i := 5) (N := some 107) (v := ?_) (a' := ?_) #[true, true, true, true, true, true, false, false, false, false, false, false, false, false, false, false, false] rfl rfl (any_of HT_.out (by kernel_rfl)) (fun _ _ _ h => h) (Or.inl ⟨by rfl, ?_⟩) ?_ ?_
        rotate_left
        · intro w'
          go_simp
          with_reducible rfl
        rotate_left
        · simp only [Act.put, List.setIfInBounds_toArray, List.set_cons_zero, List.set_cons_succ, i64_w, i32_w]
          rfl
        refine pure_ (i := 6) (N := some 108) (v := ?_) (a' := ?_) #[true, true, true, true, true, true, true, false, false, false, false, false, false, false, false, false, false] rfl rfl (any_of HT_.out (by kernel_rfl)) (fun _ _ _ h => h) (Or.inl ⟨by rfl, ?_⟩) ?_ ?_
        rotate_left
        · intro w'
          go_simp
          with_reducible rfl
        rotate_left
        · simp only [Act.put, List.setIfInBounds_toArray, List.set_cons_zero, List.set_cons_succ, i64_w, i32_w]
          rfl
        refine pure_ (i := 8) (N := some 110) (v := ?_) (a' := ?_) #[true, true, true, true, true, true, true, false, true, false, false, false, false, false, false, false, false] rfl rfl (any_of HT_.out (by kernel_rfl)) (fun _ _ _ h => h) (Or.inl ⟨by rfl, ?_⟩) ?_ ?_
        rotate_left
        · intro w'
          go_simp
          with_reducible rfl
        rotate_left
        · simp only [Act.put, List.setIfInBounds_toArray, List.set_cons_zero, List.set_cons_succ, i64_w, i32_w]
          rfl
        refine pure_ (i := 9) (N := some 111) (v := ?_) (a' := ?_) #[true, true, true, true, true, true, true, false, true, true, false, false, false, false, false, false, false] rfl rfl (any_of HT_.out (by kernel_rfl)) (fun _ _ _ h => h) (Or.inl ⟨by rfl, ?_⟩) ?_ ?_
        rotate_left
        · intro w'
          go_simp
          with_reducible rfl
        rotate_left
        · simp only [Act.put, List.setIfInBounds_toArray, List.set_cons_zero, List.set_cons_succ, i64_w, i32_w]
          rfl
        refine pure_ (i := 10) (N := some 112) (v := ?_) (a' := ?_) #[true, true, true, true, true, true, true, false, true, true, true, false, false, false, false, false, false] rfl rfl (any_of HT_.out (by kernel_rfl)) (fun _ _ _ h => h) (Or.inl ⟨by rfl, ?_⟩) ?_ ?_
        rotate_left
        · intro w'
          go_simp
          with_reducible rfl
        rotate_left
        · simp only [Act.put, List.setIfInBounds_toArray, List.set_cons_zero, List.set_cons_succ, i64_w, i32_w]
          rfl
        refine take_ (i := 11) (N := some 113) (v := ?_) (a' := ?_) #[true, true, true, true, true, true, true, false, true, true, true, true, false, false, false, false, false] rfl rfl (take_ofW HT_.out HW_.out (by kernel_rfl)) (fun _ _ _ h => h) (Or.inl ⟨by rfl, ?_⟩) hHeld ?_ ?_
        rotate_left
        · rintro w' s0
          go_simp
          with_reducible rfl
        rotate_left
        · simp only [Act.put, List.setIfInBounds_toArray, List.set_cons_zero, List.set_cons_succ, i64_w, i32_w]
          rfl
        refine pure_ (i := 12) (N := some 114) (v := ?_) (a' := ?_) #[true, true, true, true, true, true, true, false, true, true, true, true, true, false, false, false, false] rfl rfl (any_of HT_.out (by kernel_rfl)) (fun _ _ _ h => h) (Or.inl ⟨by rfl, ?_⟩) ?_ ?_
        rotate_left
        · intro w'
          go_simp
          with_reducible rfl
        rotate_left
        · simp only [Act.put, List.setIfInBounds_toArray, List.set_cons_zero, List.set_cons_succ, i64_w, i32_w]
          rfl
        refine pure_ (i := 13) (N := some 115) (v := ?_) (a' := ?_) #[true, true, true, true, true, true, true, false, true, true, true, true, true, true, false, false, false] rfl rfl (any_of HT_.out (by kernel_rfl)) (fun _ _ _ h => h) (Or.inl ⟨by rfl, ?_⟩) ?_ ?_
        rotate_left
        · intro w'
          go_simp
          with_reducible rfl
        rotate_left
        · simp only [Act.put, List.setIfInBounds_toArray, List.set_cons_zero, List.set_cons_succ, i64_w, i32_w]
          rfl
        refine one_ (i := 7) (N := some 109) #[true, true, true, true, true, true, true, true, true, true, true, true, true, true, false, false, false] rfl rfl (one_of HT_.out (by kernel_rfl)) (by decide) (fun K hK => ?_)
        refine goes_ Try.func60 (by kernel_rfl) rfl #[.pointer (some ⟨co + 1, 0, none⟩)] (by rfl) rfl rfl (by (try simp only [List.map_toArray, List.map_cons, List.map_nil]); first | done | rfl) ?_
        refine q60o.out.mono ?_
        rintro e w11 ⟨rfl, hw11⟩
        subst hw11
        refine ⟨_, rfl, ?_⟩
        clear hHeld
        refine hK.out _ _ c9 (fun hHeld => ?_)
        clear hK K
        refine norm_ (a' := ?_) ?_ ?_
        rotate_left
        · show Act.put _ (some 109) _ = _
          simp only [Act.put, List.setIfInBounds_toArray, List.set_cons_zero, List.set_cons_succ, i64_w, i32_w]
          rfl
        refine pure_ (i := 14) (N := some 116) (v := ?_) (a' := ?_) #[true, true, true, true, true, true, true, true, true, true, true, true, true, true, true, false, false] rfl rfl (any_of HT_.out (by kernel_rfl)) (fun _ _ _ h => h) (Or.inl ⟨by rfl, ?_⟩) ?_ ?_
        rotate_left
        · intro w'
          go_simp
          with_reducible rfl
        rotate_left
        · simp only [Act.put, List.setIfInBounds_toArray, List.set_cons_zero, List.set_cons_succ, i64_w, i32_w]
          rfl
        refine pure_ (i := 15) (N := some 117) (v := ?_) (a' := ?_) #[true, true, true, true, true, true, true, true, true, true, true, true, true, true, true, true, false] rfl rfl (any_of HT_.out (by kernel_rfl)) (fun _ _ _ h => h) (Or.inl ⟨by rfl, ?_⟩) ?_ ?_
        rotate_left
        · intro w'
          go_simp
          with_reducible rfl
        rotate_left
        · simp only [Act.put, List.setIfInBounds_toArray, List.set_cons_zero, List.set_cons_succ, i64_w, i32_w]
          rfl
        refine pure_ (i := 16) (N := some 118) (v := ?_) (a' := ?_) #[true, true, true, true, true, true, true, true, true, true, true, true, true, true, true, true, true] rfl rfl (any_of HT_.out (by kernel_rfl)) (fun _ _ _ h => h) (Or.inl ⟨by rfl, ?_⟩) ?_ ?_
        rotate_left
        · intro w'
          go_simp
          with_reducible rfl
        rotate_left
        · simp only [Act.put, List.setIfInBounds_toArray, List.set_cons_zero, List.set_cons_succ, i64_w, i32_w]
          rfl
        refine done_ (done_of HT_.out (by kernel_rfl)) ?_
        clear HT_ HW_ hHeld q60u q60o c9
        obtain ⟨D2, eD2⟩ : ∃ D2, w9.drew.heap.size = D2 := ⟨_, rfl⟩
        obtain ⟨V2, eV2⟩ : ∃ V2, w9.drew.alloc (Obj.cells #[.string k] 9) = V2 := ⟨_, rfl⟩
        have HV2 : Aside0 (V2.heap[D2]? = some (.cells #[.string k] 9 (0, 0)) ∧ Below w9.heap.size w9 V2) := ⟨by rw [← eV2, ← eD2]; exact heap_alloc_new w9.drew _, by rw [← eV2]; exact (below_drew (Below.refl _ w9)).alloc (Nat.le_refl _) _⟩
        have q62 := Aside0.mk (fun cc => fireOne V2 tb root (H9.out.1.keep (T.Kept.of HV2.out.2)) (mks_below H9.out.2.1 HV2.out.2) D2 cc k HV2.out.1 (by omega))
        unfold ptr at q62
        go_wp2_with fail
        (try rw [eV2, eD2])
        (try clear eV2)
        (try clear eD2)
        go_at_call 61
        refine (q62.out _).mono ?_
        rintro e w10 ⟨⟨fy, rfl⟩, hsh2⟩
        have hwo := hsh2.watch co d2 (watch_below H9.out.2.2.1 HV2.out.2)
        have hT : (d2 || (fireAll V2 root [k]).1 co) = true := by
          rcases H9.out.2.2.2.2.1 V2 with e | e
          · rw [e]; rfl
          · rw [e, Bool.or_true]
        rw [hT] at hwo
        have q63 := Aside0.mk (firedC w10 (co + 1) co true hwo)
        have hBV2 : Below w.heap.size w V2 := T.belowAt H9.out.2.2.2.2.2.1 HV2.out.2
        have HE := Aside0.mk (hBV2.trans (shot_below hsh2 hBV2.size H9.out.2.2.2.2.2.2))
        clear hsh2 hwo hT hBV2 q62
        go_wp2_with fail
        go_at_call 60
        refine q63.out.mono ?_
        rintro e w11 ⟨rfl, hw⟩
        subst hw
        clear q63
        go_wp2_with fail
        go_ret
        exact ⟨rfl, HE.out⟩
        
      · subst eth
        clear hno
        have hpc : (p ++ more).size < 4000000000000 := by rw [ByteArray.size_append]; omega
        have hns : ¬ 9223372036854775807 < p.size + more.size := by omega
        obtain ⟨q, eq⟩ : ∃ q, p ++ more = q := ⟨_, rfl⟩
        rw [eq] at hpc
        have HEQ := Aside0.mk eq
        obtain ⟨D, eD⟩ : ∃ D, wr.heap.size = D := ⟨_, rfl⟩
        obtain ⟨V, eV⟩ : ∃ V, wr.alloc (Obj.cells #[.string q] 9) = V := ⟨_, rfl⟩
        have HV : Aside0 (V.heap[D]? = some (.cells #[.string q] 9 (0, 0)) ∧ Below wr.heap.size wr V) := ⟨by rw [← eV, ← eD]; exact heap_alloc_new wr _, by rw [← eV]; exact (Below.refl _ wr).alloc (Nat.le_refl _) _⟩
        have HIV := Aside0.mk (HT.out.1.below HV.out.2)
        have q61 := Aside0.mk (fun cc => fireOne V tb root HIV.out.tr HIV.out.mrk D cc q HV.out.1 (by omega))
        unfold ptr at q61
        go_wp2_with fail
        (try rw [eV, eD])
        (try clear eV)
        (try clear eD)
        go_at_call 61
        refine (q61.out _).mono ?_
        rintro e w9 ⟨⟨fx, rfl⟩, hsh⟩
        obtain ⟨ht9, hM9, hwu9, d2, hwo9, hd2, hlast⟩ := HIV.out.under hsh (by rw [← HEQ.out, T.L_append]; exact List.prefix_append _ _)
        have hBV : Below w.heap.size w V := T.belowAt HB.out.1 HV.out.2
        have hB9 : Below w.heap.size w w9 := hBV.trans (shot_below hsh hBV.size HT.out.2.2)
        have hC9 := hsh.farP _ _ _ _ ((HV.out.2.block _ (Array.getElem?_eq_some_iff.1 HB.out.2).1).trans HB.out.2) rfl

        have c9 : w9.cell? ⟨C, 3, none⟩ = some (.string more) := by rw [blk_cell hC9]; rfl
        have q60u := Aside0.mk (firedC w9.drew (cu + 1) cu true ⟨hwu9.obj, hwu9.ch⟩)
        have q60o := Aside0.mk (firedC w9.drew (co + 1) co d2 ⟨hwo9.obj, hwo9.ch⟩)
        have H9 := Aside0.mk (And.intro ht9 (And.intro hM9 (And.intro hwo9 (And.intro hd2 (And.intro hlast (And.intro hB9 HT.out.2.2))))))
        clear hsh ht9 hM9 hwu9 hwo9 hd2 hlast hBV hB9 hC9 q61 c3
        go_upto_region 23 with fail
        refine start_ (n := 17) (S := (fun Z => Z.cell? ⟨C, 3, none⟩ = some (.string more))) (ds := []) #[false, false, false, false, false, false, false, false, false, false, false, false, false, false, false, false, false] (by kernel_rfl) rfl rfl c9 (fun hHeld => ?_); refine with_tabW wk23_tab wk23_bits (fun HT_ HW_ => ?_)
        refine pure_ (i := 0) (N := some 102) (v := ?_) (a' := ?_) #[true, false, false, false, false, false, false, false, false, false, false, false, false, false, false, false, false] rfl rfl (any_of HT_.out (by kernel_rfl)) (fun _ _ _ h => h) (Or.inl ⟨by rfl, ?_⟩) ?_ ?_
        rotate_left
        · intro w'
          go_simp
          with_reducible rfl
        rotate_left
        · simp only [Act.put, List.setIfInBounds_toArray, List.set_cons_zero, List.set_cons_succ, i64_w, i32_w]
          rfl
        refine one_ (i := 1) (N := some 103) #[true, true, false, false, false, false, false, false, false, false, false, false, false, false, false, false, false] rfl rfl (one_of HT_.out (by kernel_rfl)) (by decide) (fun K hK => ?_)
        refine goes_ Try.func60 (by kernel_rfl) rfl #[.pointer (some ⟨cu + 1, 0, none⟩)] (by rfl) rfl rfl (by (try simp only [List.map_toArray, List.map_cons, List.map_nil]); first | done | rfl) ?_
        refine q60u.out.mono ?_
        rintro e w10 ⟨rfl, hw10⟩
        subst hw10
        refine ⟨_, rfl, ?_⟩
        clear hHeld
        refine hK.out _ _ c9 (fun hHeld => ?_)
        clear hK K
        refine norm_ (a' := ?_) ?_ ?_
        rotate_left
        · show Act.put _ (some 103) _ = _
          simp only [Act.put, List.setIfInBounds_toArray, List.set_cons_zero, List.set_cons_succ, i64_w, i32_w]
          rfl
        refine pure_ (i := 2) (N := some 104) (v := ?_) (a' := ?_) #[true, true, true, false, false, false, false, false, false, false, false, false, false, false, false, false, false] rfl rfl (any_of HT_.out (by kernel_rfl)) (fun _ _ _ h => h) (Or.inl ⟨by rfl, ?_⟩) ?_ ?_
        rotate_left
        · intro w'
          go_simp
          with_reducible rfl
        rotate_left
        · simp only [Act.put, List.setIfInBounds_toArray, List.set_cons_zero, List.set_cons_succ, i64_w, i32_w]
          rfl
        refine pure_ (i := 3) (N := some 105) (v := ?_) (a' := ?_) #[true, true, true, true, false, false, false, false, false, false, false, false, false, false, false, false, false] rfl rfl (any_of HT_.out (by kernel_rfl)) (fun _ _ _ h => h) (Or.inl ⟨by rfl, ?_⟩) ?_ ?_
        rotate_left
        · intro w'
          go_simp
          with_reducible rfl
        rotate_left
        · simp only [Act.put, List.setIfInBounds_toArray, List.set_cons_zero, List.set_cons_succ, i64_w, i32_w]
          rfl
        refine pure_ (i := 4) (N := some 106) (v := ?_) (a' := ?_) #[true, true, true, true, true, false, false, false, false, false, false, false, false, false, false, false, false] rfl rfl (any_of HT_.out (by kernel_rfl)) (fun _ _ _ h => h) (Or.inl ⟨by rfl, ?_⟩) ?_ ?_
        rotate_left
        · intro w'
          go_simp
          with_reducible rfl
        rotate_left
        · simp only [Act.put, List.setIfInBounds_toArray, List.set_cons_zero, List.set_cons_succ, i64_w, i32_w]
          rfl
        refine pure_ (i := 5) (N := some 107) (v := ?_) (a' := ?_) #[true, true, true, true, true, true, false, false, false, false, false, false, false, false, false, false, false] rfl rfl (any_of HT_.out (by kernel_rfl)) (fun _ _ _ h => h) (Or.inl ⟨by rfl, ?_⟩) ?_ ?_
        rotate_left
        · intro w'
          go_simp
          with_reducible rfl
        rotate_left
        · simp only [Act.put, List.setIfInBounds_toArray, List.set_cons_zero, List.set_cons_succ, i64_w, i32_w]
          rfl
        refine pure_ (i := 6) (N := some 108) (v := undef) (a' := ?_) #[true, true, true, true, true, true, true, false, false, false, false, false, false, false, false, false, false] rfl rfl (any_of HT_.out (by kernel_rfl)) (fun _ _ _ h => h) (Or.inr ⟨by rfl, rfl⟩) ?_ ?_
        rotate_left
        · simp only [Act.put, List.setIfInBounds_toArray, List.set_cons_zero, List.set_cons_succ, i64_w, i32_w]
          rfl
        refine pure_ (i := 8) (N := some 110) (v := undef) (a' := ?_) #[true, true, true, true, true, true, true, false, true, false, false, false, false, false, false, false, false] rfl rfl (any_of HT_.out (by kernel_rfl)) (fun _ _ _ h => h) (Or.inr ⟨by rfl, rfl⟩) ?_ ?_
        rotate_left
        · simp only [Act.put, List.setIfInBounds_toArray, List.set_cons_zero, List.set_cons_succ, i64_w, i32_w]
          rfl
        refine pure_ (i := 9) (N := some 111) (v := undef) (a' := ?_) #[true, true, true, true, true, true, true, false, true, true, false, false, false, false, false, false, false] rfl rfl (any_of HT_.out (by kernel_rfl)) (fun _ _ _ h => h) (Or.inr ⟨by rfl, rfl⟩) ?_ ?_
        rotate_left
        · simp only [Act.put, List.setIfInBounds_toArray, List.set_cons_zero, List.set_cons_succ, i64_w, i32_w]
          rfl
        refine pure_ (i := 10) (N := some 112) (v := undef) (a' := ?_) #[true, true, true, true, true, true, true, false, true, true, true, false, false, false, false, false, false] rfl rfl (any_of HT_.out (by kernel_rfl)) (fun _ _ _ h => h) (Or.inr ⟨by rfl, rfl⟩) ?_ ?_
        rotate_left
        · simp only [Act.put, List.setIfInBounds_toArray, List.set_cons_zero, List.set_cons_succ, i64_w, i32_w]
          rfl
        refine take_ (i := 11) (N := some 113) (v := undef) (a' := ?_) #[true, true, true, true, true, true, true, false, true, true, true, true, false, false, false, false, false] rfl rfl (take_ofW HT_.out HW_.out (by kernel_rfl)) (fun _ _ _ h => h) (Or.inr ⟨by rfl, rfl⟩) hHeld ?_ ?_
        rotate_left
        · simp only [Act.put, List.setIfInBounds_toArray, List.set_cons_zero, List.set_cons_succ, i64_w, i32_w]
          rfl
        refine pure_ (i := 12) (N := some 114) (v := undef) (a' := ?_) #[true, true, true, true, true, true, true, false, true, true, true, true, true, false, false, false, false] rfl rfl (any_of HT_.out (by kernel_rfl)) (fun _ _ _ h => h) (Or.inr ⟨by rfl, rfl⟩) ?_ ?_
        rotate_left
        · simp only [Act.put, List.setIfInBounds_toArray, List.set_cons_zero, List.set_cons_succ, i64_w, i32_w]
          rfl
        refine pure_ (i := 13) (N := some 115) (v := undef) (a' := ?_) #[true, true, true, true, true, true, true, false, true, true, true, true, true, true, false, false, false] rfl rfl (any_of HT_.out (by kernel_rfl)) (fun _ _ _ h => h) (Or.inr ⟨by rfl, rfl⟩) ?_ ?_
        rotate_left
        · simp only [Act.put, List.setIfInBounds_toArray, List.set_cons_zero, List.set_cons_succ, i64_w, i32_w]
          rfl
        refine one_ (i := 7) (N := some 109) #[true, true, true, true, true, true, true, true, true, true, true, true, true, true, false, false, false] rfl rfl (one_of HT_.out (by kernel_rfl)) (by decide) (fun K hK => ?_)
        refine off_ (by rfl) ?_
        clear hHeld
        refine hK.out _ _ c9 (fun hHeld => ?_)
        clear hK K
        refine norm_ (a' := ?_) ?_ ?_
        rotate_left
        · show Act.put _ (some 109) _ = _
          simp only [Act.put, List.setIfInBounds_toArray, List.set_cons_zero, List.set_cons_succ, i64_w, i32_w]
          rfl
        refine pure_ (i := 14) (N := some 116) (v := undef) (a' := ?_) #[true, true, true, true, true, true, true, true, true, true, true, true, true, true, true, false, false] rfl rfl (any_of HT_.out (by kernel_rfl)) (fun _ _ _ h => h) (Or.inr ⟨by rfl, rfl⟩) ?_ ?_
        rotate_left
        · simp only [Act.put, List.setIfInBounds_toArray, List.set_cons_zero, List.set_cons_succ, i64_w, i32_w]
          rfl
        refine pure_ (i := 15) (N := some 117) (v := ?_) (a' := ?_) #[true, true, true, true, true, true, true, true, true, true, true, true, true, true, true, true, false] rfl rfl (any_of HT_.out (by kernel_rfl)) (fun _ _ _ h => h) (Or.inl ⟨by rfl, ?_⟩) ?_ ?_
        rotate_left
        · intro w'
          go_simp
          with_reducible rfl
        rotate_left
        · simp only [Act.put, List.setIfInBounds_toArray, List.set_cons_zero, List.set_cons_succ, i64_w, i32_w]
          rfl
        refine pure_ (i := 16) (N := some 118) (v := ?_) (a' := ?_) #[true, true, true, true, true, true, true, true, true, true, true, true, true, true, true, true, true] rfl rfl (any_of HT_.out (by kernel_rfl)) (fun _ _ _ h => h) (Or.inl ⟨by rfl, ?_⟩) ?_ ?_
        rotate_left
        · intro w'
          go_simp
          with_reducible rfl
        rotate_left
        · simp only [Act.put, List.setIfInBounds_toArray, List.set_cons_zero, List.set_cons_succ, i64_w, i32_w]
          rfl
        refine done_ (done_of HT_.out (by kernel_rfl)) ?_
        clear HT_ HW_ hHeld q60u q60o c9
        obtain ⟨D2, eD2⟩ : ∃ D2, w9.drew.heap.size = D2 := ⟨_, rfl⟩
        obtain ⟨V2, eV2⟩ : ∃ V2, w9.drew.alloc (Obj.cells #[.string k] 9) = V2 := ⟨_, rfl⟩
        have HV2 : Aside0 (V2.heap[D2]? = some (.cells #[.string k] 9 (0, 0)) ∧ Below w9.heap.size w9 V2) := ⟨by rw [← eV2, ← eD2]; exact heap_alloc_new w9.drew _, by rw [← eV2]; exact (below_drew (Below.refl _ w9)).alloc (Nat.le_refl _) _⟩
        have q62 := Aside0.mk (fun cc => fireOne V2 tb root (H9.out.1.keep (T.Kept.of HV2.out.2)) (mks_below H9.out.2.1 HV2.out.2) D2 cc k HV2.out.1 (by omega))
        unfold ptr at q62
        go_wp2_with fail
        (try rw [eV2, eD2])
        (try clear eV2)
        (try clear eD2)
        go_at_call 61
        refine (q62.out _).mono ?_
        rintro e w10 ⟨⟨fy, rfl⟩, hsh2⟩
        have hwo := hsh2.watch co d2 (watch_below H9.out.2.2.1 HV2.out.2)
        have hT : (d2 || (fireAll V2 root [k]).1 co) = true := by
          rcases H9.out.2.2.2.2.1 V2 with e | e
          · rw [e]; rfl
          · rw [e, Bool.or_true]
        rw [hT] at hwo
        have q63 := Aside0.mk (firedC w10 (co + 1) co true hwo)
        have hBV2 : Below w.heap.size w V2 := T.belowAt H9.out.2.2.2.2.2.1 HV2.out.2
        have HE := Aside0.mk (hBV2.trans (shot_below hsh2 hBV2.size H9.out.2.2.2.2.2.2))
        clear hsh2 hwo hT hBV2 q62
        go_wp2_with fail
        go_at_call 60
        refine q63.out.mono ?_
        rintro e w11 ⟨rfl, hw⟩
        subst hw
        clear q63
        go_wp2_with fail
        go_ret
        exact ⟨rfl, HE.out⟩
        
end Go.Proofs.Ytjhgknagmiekeaa.G
