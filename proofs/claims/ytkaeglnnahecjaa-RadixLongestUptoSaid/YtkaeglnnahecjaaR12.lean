/- radix: insert at memory, whole; Insert, New, Len, told. -/
import Derived.Test.YtkaeglnnahecjaaR11
set_option linter.unusedVariables false
set_option linter.unusedSimpArgs false
namespace Go.Proofs.Ytkaeglnnahecjaa.T
open Go.RowKit Go.Lib Go.Proofs Go.Proofs.YtkaeglnnahecjaaW.PrintWords

mutual
def Sm : Nd → Prop
  | .mk _ label _ kids _ => label.size < 4000000000000 ∧ Sms kids
def Sms : List Nd → Prop
  | [] => True
  | n :: r => Sm n ∧ Sms r
end
theorem Sms.mem : ∀ {ks : List Nd}, Sms ks → ∀ k ∈ ks, Sm k
  | n :: r, h, k, hk => by
    unfold Sms at h
    rcases List.mem_cons.1 hk with e | e
    · rw [e]; exact h.1
    · exact Sms.mem h.2 k e
theorem Sm.parts {n : Nd} (h : Sm n) : n.label.size < 4000000000000 ∧ Sms n.kids := by
  cases n with
  | mk b label leaf kids mark => unfold Sm at h; exact h
theorem insertC : ∀ (N : Nat) (rest : ByteArray), rest.size ≤ N → rest.size < 4000000000000 → ∀ (n : Nd) (l : Lf) (w0 w : World), Kept w0 w → w0.heap.size ≤ w.heap.size → NdAt w0 n → Ok n → Sm n → LfAt w0 (some l) →
    Calls Try.prog 77 #[ptr n.b, .string rest, ptr l.b] w fun e w' => ∃ ns, e = .returned (.tuple #[ptr (ns 0).1, leafPtr (findN n rest)]) ∧ Rob w0.heap.size w.heap.size w' (insN n rest l ns) ∧ SupOk w.heap.size w' ns ∧ Below w.heap.size w w' := by
  intro N
  induction N with
  | zero =>
    intro rest hN hb n l w0 w hk hs hn ho hsm hl
    exact ins_empty w0 w hk hs n rest l hn ho hl (by omega)
  | succ N ih =>
    intro rest hN hb n l w0 w hk hs hn ho hsm hl
    by_cases h0 : rest.size = 0
    · exact ins_empty w0 w hk hs n rest l hn ho hl h0
    · cases e : kidN n rest with
      | none => exact ins_new w0 w hk hs n rest l hn ho hl (by omega) e
      | some k =>
        obtain ⟨hh, hlt, ek⟩ := kidN_some e
        have hkm : k ∈ n.kids := by rw [← ek]; exact List.getElem_mem _
        have hks := hsm.parts.2.mem k hkm
        by_cases hp : 0 < comB k.label rest ∧ comB k.label rest = k.label.size
        · refine ins_deep w0 w hk hs n k rest l hn ho hl (by omega) hb e hp (by have := hks.parts.1; omega) ?_
          intro w1 hk1 hs1
          have hsz : (rest.extract (comB k.label rest) rest.size).size = rest.size - comB k.label rest := by
            simp only [ByteArray.size_extract]; omega
          refine ih _ (by omega) (by omega) k l w0 w1 hk1 hs1 ?_ (ho.parts.2.2.get k hkm) hks hl
          rw [← ek]
          exact hn.parts.choose_spec.2.2.2.get _ hlt
        · exact ins_split w0 w hk hs n k rest l hn ho hl (by omega) hb e hp hks.parts.1
theorem findN_at (w : World) : ∀ (N : Nat) (rest : ByteArray), rest.size ≤ N → ∀ (n : Nd), NdAt w n → LfAt w (findN n rest) := by
  intro N
  induction N with
  | zero =>
    intro rest hN n hn
    rw [findN, dif_pos (by omega)]
    exact hn.parts.choose_spec.2.2.1
  | succ N ih =>
    intro rest hN n hn
    rw [findN]
    split
    · exact hn.parts.choose_spec.2.2.1
    · split
      · intro l e; cases e
      · rename_i h0 k hk
        obtain ⟨hh, hlt, ek⟩ := kidN_some hk
        split
        · rename_i hp
          have hsz : (rest.extract (comB k.label rest) rest.size).size = rest.size - comB k.label rest := by
            simp only [ByteArray.size_extract]; omega
          refine ih _ (by omega) k ?_
          rw [← ek]
          exact hn.parts.choose_spec.2.2.2.get _ hlt
        · intro l e; cases e
def toldV : Option Lf → Value
  | none => .tuple #[.string ⟨#[]⟩, .int .i64 0, .bool false]
  | some l => .tuple #[.string l.key, l.val, .bool true]
set_option maxHeartbeats 4000000 in
set_option maxRecDepth 100000 in
theorem told (w : World) (o : Option Lf) (h : LfAt w o) : Calls Try.prog 58 #[leafPtr o] w fun e w' => e = .returned (toldV o) ∧ Qt w w' := by
  cases o with
  | none =>
    clear h
    unfold leafPtr
    go_enter Try.func58, Try.ntmps58
    go_wp2_with fail
    go_ret3
    exact ⟨rfl, Qt.refl _⟩
  | some l =>
    have hb := h l rfl
    have c0 : w.cell? ⟨l.b, 0, none⟩ = some (.string l.key) := by rw [blk_cell hb]; rfl
    have c1 : w.cell? ⟨l.b, 1, none⟩ = some l.val := by rw [blk_cell hb]; rfl
    clear h hb
    unfold leafPtr ptr
    go_enter Try.func58, Try.ntmps58
    go_wp2_with fail
    go_region
    go_wp2_with fail
    go_ret3
    exact ⟨rfl, (Qt.refl _).drew⟩
set_option maxHeartbeats 4000000 in
set_option maxRecDepth 100000 in
theorem sclone (w : World) (s : ByteArray) (hs : s.size < 4000000000000) : Calls Try.prog 51 #[.string s] w fun e w' => e = .returned (.string s) ∧ Below w.heap.size w w' := by
  have q1 := Aside0.mk (Try.stringslite_Clone s w (by omega))
  go_enter Try.func51, Try.ntmps51
  go_wp2_with (go_at_call 85; refine q1.out.mono ?_)
  rintro e w' ⟨rfl, hB⟩
  have HB := Aside0.mk hB
  clear hB
  go_wp2_with fail
  go_ret
  exact ⟨rfl, HB.out⟩
/-- a tree in block b -/
structure TrAt (w : World) (b : Nat) (root : Nd) (size : Int) : Prop where
  blk : w.heap[b]? = some (.cells #[ptr root.b, .int .i64 size] 133 (0, 0))
  root : NdAt w root
theorem TrAt.keep {w w' : World} {b : Nat} {root : Nd} {size : Int} (h : TrAt w b root size) (k : Kept w w') : TrAt w' b root size := ⟨k.at h.blk, NdAt.keep k _ h.root⟩
set_option maxHeartbeats 4000000 in
set_option maxRecDepth 100000 in
theorem treeLen (w : World) (b : Nat) (root : Nd) (size : Int) (h : TrAt w b root size) : Calls Try.prog 24 #[ptr b] w fun e w' => e = .returned (.int .i64 size) ∧ w' = w := by
  have c1 : w.cell? ⟨b, 1, none⟩ = some (.int .i64 size) := by rw [blk_cell h.blk]; rfl
  clear h
  unfold ptr
  go_enter Try.func24, Try.ntmps24
  go_wp2_with fail
  go_ret
  exact ⟨rfl, rfl⟩
def emptyN (b : Nat) (m : Value) : Nd := .mk b ⟨#[]⟩ none [] m
set_option maxHeartbeats 4000000 in
set_option maxRecDepth 100000 in
theorem treeNew (w : World) : Calls Try.prog 32 #[] w fun e w' => ∃ tb b m, e = .returned (ptr tb) ∧ TrAt w' tb (emptyN b m) 0 ∧ NewMark w.heap.size w' m ∧ w.heap.size ≤ b ∧ w.heap.size ≤ tb ∧ Below w.heap.size w w' := by
  go_enter Try.func32, Try.ntmps32
  go_wp2_with (go_at_call 50; refine (watchNew _).mono ?_)
  rintro e w1 ⟨rfl, rfl⟩
  unfold ptr watchObj
  go_wp2_with fail
  go_ret
  obtain ⟨hs, t1, t2, t3, t4, hb⟩ := four_facts w (.chan 0 #[] false 0 0 false) (.cells #[.int .u32 0, .int .i32 0, .int .u32 0, .chan (some w.heap.size)] 165) (.cells #[.string ⟨#[]⟩, .pointer none, .slice none 0 0, .pointer (some ⟨w.heap.size + 1, 0, none⟩)] 125) (.cells #[.pointer (some ⟨w.heap.size + 1 + 1, 0, none⟩), .int .i64 0] 133)
  refine ⟨w.heap.size + 1 + 1 + 1, w.heap.size + 1 + 1, ptr (w.heap.size + 1), rfl, ⟨t4, ?_⟩, ⟨w.heap.size, rfl, Nat.le_refl _, t1, t2⟩, by omega, by omega, hb⟩
  exact NdAt.mk (kv := .slice none 0 0) t3 (.inl ⟨rfl, rfl⟩) (fun l e => by cases e) (by unfold NdsAt; trivial) ⟨_, rfl⟩
theorem three_facts (w : World) (o1 o2 o3 : Obj) : (((w.alloc o1).alloc o2).alloc o3).heap.size = w.heap.size + 3 ∧ (((w.alloc o1).alloc o2).alloc o3).heap[w.heap.size]? = some o1 ∧ (((w.alloc o1).alloc o2).alloc o3).heap[w.heap.size + 1]? = some o2 ∧
    (((w.alloc o1).alloc o2).alloc o3).heap[w.heap.size + 1 + 1]? = some o3 ∧ Below w.heap.size w (((w.alloc o1).alloc o2).alloc o3) := by
  refine ⟨by simp only [World.size_alloc], ?_, ?_, ?_, ?_⟩
  · exact alloc_at (alloc_at (heap_alloc_new w _))
  · refine alloc_at ?_
    have := heap_alloc_new (w.alloc o1) o2
    rw [World.size_alloc] at this
    exact this
  · have := heap_alloc_new ((w.alloc o1).alloc o2) o3
    rw [World.size_alloc, World.size_alloc] at this
    exact this
  · exact (((Below.refl _ w).alloc (Nat.le_refl _) _).alloc (by simp only [World.size_alloc]; omega) _).alloc (by simp only [World.size_alloc]; omega) _
def hadOld : Option Lf → Bool × Value
  | none => (false, .int .i64 0)
  | some l => (true, l.val)
def incr (b : Bool) : Int := if b then 0 else 1
/-- the world with a new leaf -/
abbrev leafW (w : World) (k : ByteArray) (v : Int) : World :=
  ((w.alloc (.chan 0 #[] false 0 0 false)).alloc (.cells #[.int .u32 0, .int .i32 0, .int .u32 0, .chan (some w.heap.size)] 165)).alloc (.cells #[.string k, .int .i64 v, .pointer (some ⟨w.heap.size + 1, 0, none⟩)] 139)
set_option maxHeartbeats 4000000 in
set_option maxRecDepth 100000 in
theorem treeInsert (w : World) (tb : Nat) (root : Nd) (size v : Int) (k : ByteArray) (h : TrAt w tb root size) (ho : Ok root) (hsm : Sm root) (hk : k.size < 4000000000000) (hs0 : 0 ≤ size) (hs1 : size < 4000000000000) :
    Calls Try.prog 36 #[ptr tb, .string k, .int .i64 v] w fun e w' => ∃ (tb' lb : Nat) (m : Value) (ns : Sup) (had : Bool) (old : Value), e = .returned (.tuple #[ptr tb', old, .bool had]) ∧ TrAt w' tb' (insN root k ⟨lb, k, .int .i64 v, m⟩ ns) (size + incr had) ∧
      (had, old) = hadOld (findN root k) ∧ w.heap.size ≤ tb' ∧ w.heap.size ≤ lb ∧ NewMark w.heap.size w' m ∧ SupOk w.heap.size w' ns ∧ Below w.heap.size w w' := by
  have q1 := Aside0.mk (sclone w k hk)
  have c0 : w.cell? ⟨tb, 0, none⟩ = some (.pointer (some ⟨root.b, 0, none⟩)) := by rw [blk_cell h.blk]; rfl
  have c1 : w.cell? ⟨tb, 1, none⟩ = some (.int .i64 size) := by rw [blk_cell h.blk]; rfl
  have HT := Aside0.mk h
  have HO := Aside0.mk (And.intro ho hsm)
  clear h ho hsm
  unfold ptr
  go_enter Try.func36, Try.ntmps36
  go_wp2_with (go_at_call 51; refine q1.out.mono ?_)
  rintro e w1 ⟨rfl, B1⟩
  have d0 := (Kept.of B1).cell c0
  have d1 := (Kept.of B1).cell c1
  have HB1 := Aside0.mk B1
  have h1 := HT.out.keep (Kept.of B1)
  have tf := three_facts w1 (.chan 0 #[] false 0 0 false) (.cells #[.int .u32 0, .int .i32 0, .int .u32 0, .chan (some w1.heap.size)] 165) (.cells #[.string k, .int .i64 v, .pointer (some ⟨w1.heap.size + 1, 0, none⟩)] 139)
  have q7 := Aside0.mk (insertC k.size k (Nat.le_refl _) hk root ⟨w1.heap.size + 1 + 1, k, .int .i64 v, .pointer (some ⟨w1.heap.size + 1, 0, none⟩)⟩ (leafW w1 k v).drew (leafW w1 k v).drew (fun _ _ => rfl) (Nat.le_refl _) (NdAt.keep (show Kept w1 (leafW w1 k v).drew from fun x hx => Kept.of tf.2.2.2.2 x hx) _ h1.root) HO.out.1 HO.out.2 (fun l e => by cases e; exact tf.2.2.2.1))
  have HTF := Aside0.mk tf
  clear B1 h1 tf q1
  unfold ptr at q7
  go_wp2_with fail
  go_region_held3 (fun w' => w'.cell? ⟨tb, 0, none⟩ = some (.pointer (some ⟨root.b, 0, none⟩)))
    (first | exact d0 | exact cellA d0 | exact cellA (cellA d0) | exact cellA (cellA (cellA d0)) | exact f0)
    (first
      | (go_at_call 50; refine (watchNew _).mono ?_; rintro e wz ⟨rfl, rfl⟩; unfold ptr watchObj)
      | (go_at_call 77; refine q7.out.mono ?_; rintro e w4 ⟨ns, rfl, hr, hsu, hb4⟩; have f0 := (Kept.of hb4).cell (cellA (cellA (cellA d0))); have f1 := (Kept.of hb4).cell (cellA (cellA (cellA d1))); have H4 := Aside0.mk (And.intro hr (And.intro hsu hb4)); clear hr hsu hb4))
  have hfat := findN_at w k.size k (Nat.le_refl _) root HT.out.root
  cases hfo : findN root k with
  | none =>
    rw [hfo] at hfat
    have q8 := Aside0.mk (fun W => told W none (fun l e => by cases e))
    unfold leafPtr toldV at q8
    unfold leafPtr
    have HFO := Aside0.mk hfo
    clear hfo hfat
    go_wp2_with (go_at_call 58; refine (q8.out _).mono ?_; rintro e w5 ⟨rfl, Q5⟩; have HQ5 := Aside0.mk Q5; clear Q5)
    go_ret3
    obtain ⟨hr, hsu, hb4⟩ := H4.out
    have hsw1 := HB1.out.size
    have hsl : (leafW w1 k v).heap.size = w1.heap.size + 3 := HTF.out.1
    have hsl2 : (leafW w1 k v).heap.size ≤ w4.heap.size := hb4.size
    have B4 : Below w.heap.size w w4 := (HB1.out.trans ⟨HTF.out.2.2.2.2.os, HTF.out.2.2.2.2.tape, HTF.out.2.2.2.2.output, HTF.out.2.2.2.2.size, fun x hx => HTF.out.2.2.2.2.block x (by omega)⟩).trans ⟨hb4.os, hb4.tape, hb4.output, hb4.size, fun x hx => hb4.block x (by show x < (leafW w1 k v).heap.size; omega)⟩
    have QO := HQ5.out
    have hh5 := QO.heap
    have K45 : Kept w4 w5 := (Kept.of ((Below.refl _ w4).alloc (Nat.le_refl _) _)).trans QO.kept (by simp only [World.size_alloc]; omega)
    refine ⟨w4.heap.size, w1.heap.size + 1 + 1, .pointer (some ⟨w1.heap.size + 1, 0, none⟩), ns, false, .int .i64 0, rfl, ⟨?_, ?_⟩, by rw [HFO.out]; rfl, by omega, by omega, ?_, ⟨fun j => ?_, fun j => ?_⟩, (B4.alloc (by omega) _).trans (QO.below _)⟩
    · rw [hh5, insN_b]
      exact heap_alloc_new w4 _
    · exact NdAt.keep K45 _ (hr w4 (Ag.refl _ _ _))
    · exact NewMark.keep (w := w4) ⟨w1.heap.size, rfl, hsw1, (Kept.of hb4).at HTF.out.2.1, (Kept.of hb4).at HTF.out.2.2.1⟩ K45
    · have h1 := hsu.new j
      have h2 : (leafW w1 k v).heap.size ≤ (ns j).1 := h1.1
      have h3 : w4.heap.size + 1 = w5.heap.size := by rw [hh5]; simp only [World.size_alloc]
      omega
    · exact ((hsu.mark j).mono (by show w.heap.size ≤ (leafW w1 k v).heap.size; omega)).keep K45
  | some l' =>
    rw [hfo] at hfat
    have q8 := Aside0.mk (fun W (hW : Kept w W) => told W (some l') (hfat.keep hW))
    unfold leafPtr toldV ptr at q8
    unfold leafPtr ptr
    have HFO := Aside0.mk hfo
    have KW : Aside0 (Kept w w4) := ⟨(Kept.of HB1.out).trans (Kept.trans (b := leafW w1 k v) (Kept.of HTF.out.2.2.2.2) (fun x hx => Kept.of H4.out.2.2 x hx) HTF.out.2.2.2.2.size) HB1.out.size⟩
    clear hfo hfat
    have KW2 : Aside0 (∀ o, Kept w (w4.alloc o)) := ⟨fun o => KW.out.trans (Kept.of ((Below.refl _ w4).alloc (Nat.le_refl _) _)) (by have h1 : (leafW w1 k v).heap.size ≤ w4.heap.size := H4.out.2.2.size; have h2 : (leafW w1 k v).heap.size = w1.heap.size + 3 := HTF.out.1; have h3 := HB1.out.size; omega)⟩
    go_wp2_with (go_at_call 58; refine (q8.out _ (KW2.out _)).mono ?_; rintro e w5 ⟨rfl, Q5⟩; have HQ5 := Aside0.mk Q5; clear Q5)
    go_ret3
    obtain ⟨hr, hsu, hb4⟩ := H4.out
    have hsw1 := HB1.out.size
    have hsl : (leafW w1 k v).heap.size = w1.heap.size + 3 := HTF.out.1
    have hsl2 : (leafW w1 k v).heap.size ≤ w4.heap.size := hb4.size
    have B4 : Below w.heap.size w w4 := (HB1.out.trans ⟨HTF.out.2.2.2.2.os, HTF.out.2.2.2.2.tape, HTF.out.2.2.2.2.output, HTF.out.2.2.2.2.size, fun x hx => HTF.out.2.2.2.2.block x (by omega)⟩).trans ⟨hb4.os, hb4.tape, hb4.output, hb4.size, fun x hx => hb4.block x (by show x < (leafW w1 k v).heap.size; omega)⟩
    have QO := HQ5.out
    have hh5 := QO.heap
    have K45 : Kept w4 w5 := (Kept.of ((Below.refl _ w4).alloc (Nat.le_refl _) _)).trans QO.kept (by simp only [World.size_alloc]; omega)
    refine ⟨w4.heap.size, w1.heap.size + 1 + 1, .pointer (some ⟨w1.heap.size + 1, 0, none⟩), ns, true, l'.val, rfl, ⟨?_, ?_⟩, by rw [HFO.out]; rfl, by omega, by omega, ?_, ⟨fun j => ?_, fun j => ?_⟩, (B4.alloc (by omega) _).trans (QO.below _)⟩
    · rw [hh5, insN_b]
      have e0 : size + incr true = size := Int.add_zero _
      rw [e0]
      exact heap_alloc_new w4 _
    · exact NdAt.keep K45 _ (hr w4 (Ag.refl _ _ _))
    · exact NewMark.keep (w := w4) ⟨w1.heap.size, rfl, hsw1, (Kept.of hb4).at HTF.out.2.1, (Kept.of hb4).at HTF.out.2.2.1⟩ K45
    · have h1 := hsu.new j
      have h2 : (leafW w1 k v).heap.size ≤ (ns j).1 := h1.1
      have h3 : w4.heap.size + 1 = w5.heap.size := by rw [hh5]; simp only [World.size_alloc]
      omega
    · exact ((hsu.mark j).mono (by show w.heap.size ≤ (leafW w1 k v).heap.size; omega)).keep K45
end Go.Proofs.Ytkaeglnnahecjaa.T
