/- joined: R25 R26 R27 R28 R29 -/
import Derived.Test.YtkaeglnnahecjaaJh
import Derived.Deep.RegionLaw
import Derived.Test.YtkaeglnnahecjaaJf
import Derived.Test.YtkaeglnnahecjaaJg
import Derived.Test.YtkaeglnnahecjaaJb
/- radix: looks at nodes: Root, Path, Value, Kids. -/
set_option linter.unusedVariables false
set_option linter.unusedSimpArgs false
namespace Go.Proofs.Ytkaeglnnahecjaa.T
open Go.RowKit Go.Lib Go.Proofs Go.Proofs.YtkaeglnnahecjaaW.PrintWords

/-- a look at a node -/
def nodeV (b : Nat) (path : ByteArray) : Value := .agg #[ptr b, .string path]
set_option maxHeartbeats 4000000 in
set_option maxRecDepth 100000 in
theorem rootC (w : World) (tb : Nat) (root : Nd) (size : Int) (h : TrAt w tb root size) : Calls Try.prog 30 #[ptr tb] w fun e w' => e = .returned (nodeV root.b ⟨#[]⟩) ∧ Below w.heap.size w w' := by
  have c0 : w.cell? ⟨tb, 0, none⟩ = some (.pointer (some ⟨root.b, 0, none⟩)) := by rw [blk_cell h.blk]; rfl
  have HB := Aside0.mk ((Below.refl w.heap.size w).alloc (Nat.le_refl _) (.cells #[.pointer (some ⟨root.b, 0, none⟩), .string ⟨#[]⟩] 60))
  have c1 : (w.alloc (.cells #[.pointer none, .string ⟨#[]⟩] 60)).cell? ⟨tb, 0, none⟩ = some (.pointer (some ⟨root.b, 0, none⟩)) := cellA c0
  clear h c0
  unfold nodeV ptr
  go_enter Try.func30, Try.ntmps30
  go_wp2_with fail
  exact bodyPost_ret (v := .agg #[.pointer (some ⟨root.b, 0, none⟩), .string ⟨#[]⟩]) (by simp [results, Try.results30, go_sem]) rfl ⟨rfl, HB.out⟩
set_option maxHeartbeats 4000000 in
set_option maxRecDepth 100000 in
theorem pathC (w : World) (b : Nat) (path : ByteArray) : Calls Try.prog 72 #[nodeV b path] w fun e w' => e = .returned (.string path) ∧ Below w.heap.size w w' := by
  have HB := Aside0.mk ((Below.refl w.heap.size w).alloc (Nat.le_refl _) (.cells #[.pointer (some ⟨b, 0, none⟩), .string path] 60))
  unfold nodeV ptr
  go_enter Try.func72, Try.ntmps72
  go_wp2_with fail
  go_ret
  exact ⟨rfl, HB.out⟩
def lookV : Option Lf → Value
  | none => .tuple #[.int .i64 0, .bool false]
  | some l => .tuple #[l.val, .bool true]
set_option maxHeartbeats 4000000 in
set_option maxRecDepth 100000 in
theorem valueC (w : World) (n : Nd) (path : ByteArray) (hn : NdAt w n) : Calls Try.prog 71 #[nodeV n.b path] w fun e w' => e = .returned (lookV n.leaf) ∧ Below w.heap.size w w' := by
  have HB := Aside0.mk ((Below.refl w.heap.size w).alloc (Nat.le_refl _) (.cells #[.pointer (some ⟨n.b, 0, none⟩), .string path] 60))
  have hn1 := NdAt.keep (Kept.of HB.out) n hn
  obtain ⟨kv, hb, hr, hl, hk⟩ := hn1.parts
  obtain ⟨lp, elp⟩ := leafPtr_form n.leaf
  have c1 : (w.alloc (.cells #[.pointer (some ⟨n.b, 0, none⟩), .string path] 60)).cell? ⟨n.b, 1, none⟩ = some (.pointer lp) := by rw [blk_cell hb, elp]; rfl
  have q := told (w.alloc (.cells #[.pointer (some ⟨n.b, 0, none⟩), .string path] 60)) n.leaf hl
  rw [elp] at q
  obtain ⟨a, b, c, ha, hla⟩ : ∃ a b c, toldV n.leaf = .tuple #[a, b, c] ∧ lookV n.leaf = .tuple #[b, c] := by cases n.leaf <;> exact ⟨_, _, _, rfl, rfl⟩
  rw [ha] at q
  rw [hla]
  have q1 := Aside0.mk q
  clear hn hn1 hb hr hl hk elp q ha hla
  unfold nodeV ptr
  go_enter Try.func71, Try.ntmps71
  go_wp2_with (go_at_call 58; refine q1.out.mono ?_; rintro e w1 ⟨rfl, Q1⟩; have HQ := Aside0.mk Q1; clear Q1)
  go_ret2
  exact ⟨rfl, HB.out.trans (HQ.out.below _)⟩
/-- a row of looks at nodes, as it reads -/
def NodeRow (w : World) (v : Value) (xs : List (Nat × ByteArray)) : Prop := ∃ A c, v = .slice A xs.length c ∧ ∀ i (h : i < xs.length), ∃ g, A = some ⟨g, 0, none⟩ ∧ w.cell? ⟨g, i * 2, none⟩ = some (ptr xs[i].1) ∧ w.cell? ⟨g, i * 2 + 1, none⟩ = some (.string xs[i].2)
theorem NodeRow.keep {w w' : World} {v : Value} {xs : List (Nat × ByteArray)} (h : NodeRow w v xs) (k : Kept w w') : NodeRow w' v xs := by
  obtain ⟨A, c, e, h⟩ := h
  refine ⟨A, c, e, fun i hi => ?_⟩
  obtain ⟨g, e1, h1, h2⟩ := h i hi
  exact ⟨g, e1, k.cell h1, k.cell h2⟩
def flatK (path : ByteArray) (ks : List Nd) : List Value := ks.flatMap fun k => [ptr k.b, .string (path ++ k.label)]
theorem flatK_len (path : ByteArray) (ks : List Nd) : (flatK path ks).length = ks.length * 2 := by
  induction ks with
  | nil => rfl
  | cons k ks ih => simp only [flatK, List.flatMap_cons, List.length_append, List.length_cons, List.length_nil] at ih ⊢; omega
theorem flatK_snoc (path : ByteArray) (ks : List Nd) (k : Nd) : flatK path (ks ++ [k]) = flatK path ks ++ [ptr k.b, .string (path ++ k.label)] := by simp [flatK]
theorem flatK_get (path : ByteArray) : ∀ (ks : List Nd) (i : Nat) (h : i < ks.length), (flatK path ks)[i * 2]? = some (ptr ks[i].b) ∧ (flatK path ks)[i * 2 + 1]? = some (.string (path ++ ks[i].label))
  | k :: ks, 0, _ => by simp [flatK]
  | k :: ks, i + 1, h => by
    have ih := flatK_get path ks i (by simpa using h)
    have e : flatK path (k :: ks) = ptr k.b :: .string (path ++ k.label) :: flatK path ks := rfl
    rw [e, show (i + 1) * 2 = i * 2 + 1 + 1 by omega, show i * 2 + 1 + 1 + 1 = (i * 2 + 1) + 1 + 1 by omega]
    simpa using ih
def looksOf (path : ByteArray) (ks : List Nd) : List (Nat × ByteArray) := ks.map fun k => (k.b, path ++ k.label)
theorem nodeRow_of {w : World} {base n : Nat} {v : Value} {path : ByteArray} {ks : List Nd} (h : w.ownsRow base 60 2 v n (flatK path ks)) : NodeRow w v (looksOf path ks) := by
  have hl : ks.length = n := by have := h.1; rw [flatK_len] at this; omega
  have hl2 : (looksOf path ks).length = n := by simp [looksOf, hl]
  rcases h.2 with ⟨rfl, h0⟩ | ⟨g, cap, cur, rfl, hb, hg, hnc, hcm, hcs, ht⟩
  · exact ⟨none, 0, by rw [hl2, h0], fun i hi => by omega⟩
  · refine ⟨some ⟨g, 0, none⟩, cap, by rw [hl2], fun i hi => ⟨g, rfl, ?_⟩⟩
    have hi' : i < ks.length := by omega
    have hg2 := flatK_get path ks i hi'
    have key : ∀ j, j < n * 2 → w.cell? ⟨g, j, none⟩ = (flatK path ks)[j]? := fun j hj => by
      rw [blk_cell hg, ← ht, List.getElem?_take_of_lt hj, Array.getElem?_toList]
    rw [key (i * 2) (by omega), key (i * 2 + 1) (by omega), hg2.1, hg2.2]
    simp [looksOf]
theorem infoNode : (Try.prog.info? 60).map (fun i => (i.zero, i.size, i.bytes)) = some (some (.agg #[.pointer none, .string ⟨#[]⟩]), 2, 24) := by kernel_rfl
set_option maxHeartbeats 4000000 in
set_option maxRecDepth 100000 in
theorem kidsC (w : World) (n : Nd) (path : ByteArray) (hn : NdAt w n) (ho : Ok n) (hp : ∀ k ∈ n.kids, path.size + k.label.size < 9000000000000000000) :
    Calls Try.prog 73 #[nodeV n.b path] w fun e w' => ∃ v, e = .returned v ∧ NodeRow w' v (looksOf path n.kids) ∧ Below w.heap.size w w' := by
  obtain ⟨i0, hi, hz0, hz1, hz2⟩ := info_parts infoNode
  have hfew := ho.few
  have HB := Aside0.mk ((Below.refl w.heap.size w).alloc (Nat.le_refl _) (.cells #[.pointer (some ⟨n.b, 0, none⟩), .string path] 60))
  have hn1 := NdAt.keep (Kept.of HB.out) n hn
  obtain ⟨kv, hb, hr, hl, hk⟩ := hn1.parts
  obtain ⟨A, c, rfl, hrc⟩ := hr.open
  have elen : (ptrs n.kids).length = n.kids.length := by simp [ptrs]
  rw [elen] at hb
  obtain ⟨len, hlen⟩ : ∃ len, n.kids.length = len := ⟨_, rfl⟩
  have c2 : (w.alloc (.cells #[.pointer (some ⟨n.b, 0, none⟩), .string path] 60)).cell? ⟨n.b, 2, none⟩ = some (.slice A len c) := by rw [blk_cell hb, ← hlen]; rfl
  have HR := Aside0.mk (And.intro hrc (And.intro hk (And.intro hp hlen)))
  have hbox := heap_alloc_new w (.cells #[.pointer (some ⟨n.b, 0, none⟩), .string path] 60)
  have HX := Aside0.mk hbox
  have hl256 : len ≤ 256 := by omega
  have HI := Aside0.mk (And.intro hi (And.intro hz0 (And.intro hz1 hz2)))
  clear hn hn1 ho hp hb hr hl hk hrc elen hfew hbox hi hz0 hz1 hz2
  unfold nodeV ptr
  go_enter Try.func73, Try.ntmps73
  go_wp2_with fail
  go_loopg [3, 5, 12] (len + 1) (fun kq v3 v5 v12 w' => ∃ i : Nat, v12 = .int .i64 (i : Int) ∧ Aside0 (i + kq = len + 1 ∧ i ≤ len) ∧ Aside0 (w'.ownsRow (w.heap.size + 1) 60 2 v3 i (flatK path (n.kids.take i))) ∧ Aside0 (Below (w.heap.size + 1) (w.alloc (.cells #[.pointer (some ⟨n.b, 0, none⟩), .string path] 60)) w'))
  case atStart => exact ⟨0, rfl, ⟨by omega⟩, ⟨World.ownsRow_nil _ _ _ _⟩, ⟨Below.refl _ _⟩⟩
  case round =>
    obtain ⟨i, rfl, HQ, HO, HW⟩ := hrel
    by_cases hlt : i < len
    · have hi' : i < n.kids.length := by rw [HR.out.2.2.2]; exact hlt
      obtain ⟨ad, eA, hca⟩ := HR.out.1 i (by simpa [ptrs] using hi')
      obtain ⟨k, ek⟩ : ∃ k, n.kids[i] = k := ⟨_, rfl⟩
      have hkm : k ∈ n.kids := by rw [← ek]; exact List.getElem_mem _
      have epk : (ptrs n.kids)[i]'(by simpa [ptrs] using hi') = ptr k.b := by simp [ptrs, ek]
      rw [epk] at hca
      obtain ⟨kv2, hb2, _⟩ := (HR.out.2.1.mem k hkm).parts
      have KW : Kept (w.alloc (.cells #[.pointer (some ⟨n.b, 0, none⟩), .string path] 60)) wr := Kept.of (by have := HW.out; rwa [World.size_alloc])
      have d0 : wr.cell? ⟨k.b, 0, none⟩ = some (.string k.label) := by rw [blk_cell (KW.at hb2)]; rfl
      have d1 : wr.cell? (ad.add i) = some (.pointer (some ⟨k.b, 0, none⟩)) := KW.cell hca
      have e1 : wr.cell? ⟨w.heap.size, 1, none⟩ = some (.string path) := by rw [blk_cell (KW.at HX.out)]; rfl
      have hadd := fun w1 : World => run_string_add_sum (P := Try.prog) w1 path k.label (by have := HR.out.2.2.1 k hkm; omega)
      have HK := Aside0.mk (show n.kids[i]? = some k by rw [List.getElem?_eq_getElem hi', ek])
      have hltI : (i : Int) < (len : Int) := by omega
      have ew : IntKind.i64.wrap ((i : Int) + 1) = (i : Int) + 1 := by rw [IntKind.wrap_i64]; omega
      subst eA
      clear hca ek hkm epk hb2 KW hi'
      go_wp2_with fail
      have h1c : Aside0 (∀ u ∈ [Value.pointer (some ⟨k.b, 0, none⟩), Value.string (path ++ k.label)], u.oneCell' = true) := ⟨by simp [Value.oneCell']⟩
      have HO2 : Aside0 (wr.drew.ownsRow (w.heap.size + 1) 60 2 u3 i (flatK path (n.kids.take i))) := ⟨HO.out⟩
      have HW2 : Aside0 (Below (w.heap.size + 1) (w.alloc (.cells #[.pointer (some ⟨n.b, 0, none⟩), .string path] 60)) wr.drew) := ⟨⟨HW.out.os, HW.out.tape, HW.out.output, HW.out.size, HW.out.block⟩⟩
      have hbs : Aside0 (w.heap.size + 1 ≤ wr.drew.heap.size) := ⟨by have := HW.out.size; rw [World.size_alloc] at this; exact this⟩
      have hbl : Aside0 ((i + 1) * 24 ≤ 140737488355328) := ⟨by omega⟩
      go_region_law (refine step_append_cells (w0 := w.alloc (.cells #[.pointer (some ⟨n.b, 0, none⟩), .string path] 60)) (W := wr.drew) (w.heap.size + 1) rfl (.tmp 16) (.tmp 26) 144 60 (.agg #[.pointer none, .string ⟨#[]⟩]) 2 24 rfl Try.underlying144 infoNode rfl (by decide) (by decide) u3 i _ [.pointer (some ⟨k.b, 0, none⟩), .string (path ++ k.label)] (by simp [Act.eval, Act.put]) (by simp [Act.eval, Act.put]) rfl h1c.out HO2.out HW2.out hbs.out hbl.out ?_; intro v1 w2 o1 b1 g1 at1; have H1 := Aside0.mk (And.intro o1 b1); clear o1 b1 g1 at1)
      all_goals
        go_wp2_with fail
        go_roundg (len - i)
        case measure => have := HQ.out; omega
        case rel =>
          refine ⟨i + 1, by simp, ⟨by have := HQ.out; omega⟩, ⟨?_⟩, ⟨H1.out.2⟩⟩
          have e : n.kids.take (i + 1) = n.kids.take i ++ [k] := by
            rw [List.take_add_one, HK.out]; rfl
          rw [e, flatK_snoc]
          exact H1.out.1
    · have hin : i = len := by have := HQ.out; omega
      subst hin
      go_wp2_with fail
      go_ret
      have e : n.kids.take i = n.kids := List.take_of_length_le (by rw [HR.out.2.2.2]; exact Nat.le_refl _)
      have ho := HO.out
      rw [e] at ho
      have hB := HW.out
      exact ⟨_, rfl, nodeRow_of ho, HB.out.trans ⟨hB.os, hB.tape, hB.output, hB.size, fun x hx => hB.block x (by omega)⟩⟩
end Go.Proofs.Ytkaeglnnahecjaa.T
/- radix: alike, one level. -/
set_option linter.unusedVariables false
set_option linter.unusedSimpArgs false
namespace Go.Proofs.Ytkaeglnnahecjaa.T
open Go.RowKit Go.Lib Go.Proofs Go.Proofs.YtkaeglnnahecjaaW.PrintWords

abbrev boxW (w : World) (a b : Nat) (p : ByteArray) : World := (w.alloc (.cells #[.pointer (some ⟨a, 0, none⟩), .string p] 60)).alloc (.cells #[.pointer (some ⟨b, 0, none⟩), .string p] 60)
/-- the two boxes stand -/
def Boxed2 (w : World) (a b : Nat) (p : ByteArray) (W : World) : Prop :=
  W.cell? ⟨w.heap.size, 0, none⟩ = some (.pointer (some ⟨a, 0, none⟩)) ∧ W.cell? ⟨w.heap.size, 1, none⟩ = some (.string p) ∧ W.cell? ⟨w.heap.size + 1, 0, none⟩ = some (.pointer (some ⟨b, 0, none⟩)) ∧ W.cell? ⟨w.heap.size + 1, 1, none⟩ = some (.string p)
theorem boxed2 {w : World} {a b : Nat} {p : ByteArray} {W : World} (h : Below (boxW w a b p).heap.size (boxW w a b p) W) : Boxed2 w a b p W := by
  have K := Kept.of h
  have h1 : (boxW w a b p).heap[w.heap.size]? = some (.cells #[.pointer (some ⟨a, 0, none⟩), .string p] 60 (0, 0)) := alloc_at (heap_alloc_new w _)
  have h2 : (boxW w a b p).heap[w.heap.size + 1]? = some (.cells #[.pointer (some ⟨b, 0, none⟩), .string p] 60 (0, 0)) := by
    have := heap_alloc_new (w.alloc (.cells #[.pointer (some ⟨a, 0, none⟩), .string p] 60)) (.cells #[.pointer (some ⟨b, 0, none⟩), .string p] 60)
    rw [World.size_alloc] at this
    exact this
  exact ⟨by rw [blk_cell (K.at h1)]; rfl, by rw [blk_cell (K.at h1)]; rfl, by rw [blk_cell (K.at h2)]; rfl, by rw [blk_cell (K.at h2)]; rfl⟩
theorem boxW_below (w : World) (a b : Nat) (p : ByteArray) : Below w.heap.size w (boxW w a b p) := ((Below.refl _ w).alloc (Nat.le_refl _) _).alloc (by simp only [World.size_alloc]; omega) _
theorem below_drew {B : Nat} {w w' : World} (h : Below B w w') : Below B w w'.drew := ⟨h.os, h.tape, h.output, h.size, h.block⟩
def AlikeOk (w : World) (e : Ending) (w' : World) : Prop := e = .returned (.bool true) ∧ Below w.heap.size w w'
theorem kidsL (w : World) (n : Nd) (path : ByteArray) (hn : NdAt w n) (ho : Ok n) (hp : ∀ k ∈ n.kids, path.size + k.label.size < 9000000000000000000) (len : Nat) (hlen : n.kids.length = len) :
    Calls Try.prog 73 #[nodeV n.b path] w fun e w' => ∃ A c, e = .returned (.slice A len c) ∧ NodeRow w' (.slice A len c) (looksOf path n.kids) ∧ Below w.heap.size w w' := by
  refine (kidsC w n path hn ho hp).mono ?_
  rintro e w' ⟨v, rfl, ⟨A, c, rfl, h⟩, hB⟩
  have hl : (looksOf path n.kids).length = len := by simp [looksOf, hlen]
  refine ⟨A, c, by rw [hl], ?_, hB⟩
  rw [← hl]
  exact ⟨A, c, rfl, h⟩
theorem NodeRow.at {w : World} {A : Option Addr} {len c : Nat} {path : ByteArray} {ks : List Nd} (h : NodeRow w (.slice A len c) (looksOf path ks)) (i : Nat) (hi : i < ks.length) :
    ∃ g, A = some ⟨g, 0, none⟩ ∧ w.cell? ⟨g, i * 2, none⟩ = some (.pointer (some ⟨ks[i].b, 0, none⟩)) ∧ w.cell? ⟨g, i * 2 + 1, none⟩ = some (.string (path ++ ks[i].label)) := by
  obtain ⟨A', c', e, h⟩ := h
  injection e with e1 _ _
  subst e1
  obtain ⟨g, hg, h1, h2⟩ := h i (by simpa [looksOf] using hi)
  refine ⟨g, hg, ?_, ?_⟩
  · rw [h1]; simp [looksOf, ptr]
  · rw [h2]; simp [looksOf]
set_option maxHeartbeats 4000000 in
set_option maxRecDepth 100000 in
theorem alike_step (w : World) (a b : Nd) (p : ByteArray) (ha : NdAt w a) (hb : NdAt w b) (hoa : Ok a) (hob : Ok b) (x : Int) (ok : Bool) (hva : lookV a.leaf = .tuple #[.int .i64 x, .bool ok]) (hvb : lookV b.leaf = .tuple #[.int .i64 x, .bool ok])
    (hlen : a.kids.length = b.kids.length) (hpa : ∀ k ∈ a.kids, p.size + k.label.size < 9000000000000000000) (hpb : ∀ k ∈ b.kids, p.size + k.label.size < 9000000000000000000)
    (IH : ∀ i (hi : i < a.kids.length) (hj : i < b.kids.length) W, Kept w W → Calls Try.prog 37 #[nodeV a.kids[i].b (p ++ a.kids[i].label), nodeV b.kids[i].b (p ++ b.kids[i].label)] W (AlikeOk W)) :
    Calls Try.prog 37 #[nodeV a.b p, nodeV b.b p] w (AlikeOk w) := by
  have q1 := Aside0.mk (fun W (h : Kept w W) => valueC W a p (NdAt.keep h a ha))
  have q2 := Aside0.mk (fun W (h : Kept w W) => valueC W b p (NdAt.keep h b hb))
  rw [hva] at q1
  rw [hvb] at q2
  have q3 := Aside0.mk (fun W => pathC W a.b p)
  have q4 := Aside0.mk (fun W => pathC W b.b p)
  obtain ⟨len, elen⟩ : ∃ len, a.kids.length = len := ⟨_, rfl⟩
  have q5 := Aside0.mk (fun W (h : Kept w W) => kidsL W a p (NdAt.keep h a ha) hoa hpa len elen)
  have q6 := Aside0.mk (fun W (h : Kept w W) => kidsL W b p (NdAt.keep h b hb) hob hpb len (by rw [← hlen]; exact elen))
  have hfew := hoa.few
  have HL := Aside0.mk hlen
  have HI := Aside0.mk IH
  have HB0 := Aside0.mk (Below.refl (boxW w a.b b.b p).heap.size (boxW w a.b b.b p))
  have HBW := Aside0.mk (boxW_below w a.b b.b p)
  have KW : Aside0 (∀ W, Below (boxW w a.b b.b p).heap.size (boxW w a.b b.b p) W → Kept w W) := ⟨fun W h => Kept.of (belowAt HBW.out h)⟩
  have HE := Aside0.mk elen
  have hl256 : len ≤ 256 := by omega
  obtain ⟨ab, eab⟩ : ∃ ab, a.b = ab := ⟨_, rfl⟩
  obtain ⟨bb, ebb⟩ : ∃ bb, b.b = bb := ⟨_, rfl⟩
  rw [eab] at q1 q3 q5
  rw [ebb] at q2 q4 q6
  rw [eab, ebb] at HB0 HBW KW ⊢
  have b0 := boxed2 HB0.out
  obtain ⟨b00, b01, b02, b03⟩ := b0
  have HX := Aside0.mk (And.intro eab ebb)
  clear ha hb hoa hob hva hvb hlen hpa hpb IH hfew elen eab ebb
  unfold nodeV ptr at q1 q2 q3 q4 q5 q6 ⊢
  unfold boxW at b00 b01 b02 b03
  go_enter Try.func37, Try.ntmps37
  go_wp2_with (go_at_call 71; refine (q1.out _ (KW.out _ HB0.out)).mono ?_)
  rintro e w1 ⟨rfl, B1⟩
  have HB1 : Aside0 (Below (boxW w ab bb p).heap.size (boxW w ab bb p) w1) := ⟨B1⟩
  obtain ⟨c00, c01, c02, c03⟩ := boxed2 HB1.out
  clear b00 b01 b02 b03 B1 q1
  go_wp2_with (go_at_call 71; refine (q2.out _ (KW.out _ HB1.out)).mono ?_)
  rintro e w2 ⟨rfl, B2⟩
  have HB2 : Aside0 (Below (boxW w ab bb p).heap.size (boxW w ab bb p) w2) := ⟨belowAt HB1.out B2⟩
  obtain ⟨d00, d01, d02, d03⟩ := boxed2 HB2.out
  clear c00 c01 c02 c03 B2 q2
  go_wp2_with fail
  have HBn := Aside0.mk (below_drew HB2.out)
  go_region_held3 (fun W => W.cell? ⟨w.heap.size, 0, none⟩ = some (.pointer (some ⟨ab, 0, none⟩)) ∧ W.cell? ⟨w.heap.size, 1, none⟩ = some (.string p) ∧ W.cell? ⟨w.heap.size + 1, 0, none⟩ = some (.pointer (some ⟨bb, 0, none⟩)) ∧ W.cell? ⟨w.heap.size + 1, 1, none⟩ = some (.string p))
    (first | exact ⟨d00, d01, d02, d03⟩ | exact boxed2 HBn.out)
    (first
      | (go_at_call 72; (with_reducible refine (q3.out _).mono ?_); rintro e wa ⟨rfl, Ba⟩; have n0_ := Aside0.mk (belowAt HBn.out Ba); clear HBn; have HBn := n0_; clear n0_; clear Ba)
      | (go_at_call 72; (with_reducible refine (q4.out _).mono ?_); rintro e wa ⟨rfl, Ba⟩; have n0_ := Aside0.mk (belowAt HBn.out Ba); clear HBn; have HBn := n0_; clear n0_; clear Ba))
  go_wp2_with fail
  obtain ⟨e00, e01, e02, e03⟩ := boxed2 HBn.out
  clear d00 d01 d02 d03
  have n0_ := Aside0.mk (below_drew HBn.out)
  clear HBn
  have HBn := n0_
  clear n0_
  go_region_held3 (fun W => W.cell? ⟨w.heap.size, 0, none⟩ = some (.pointer (some ⟨ab, 0, none⟩)) ∧ W.cell? ⟨w.heap.size, 1, none⟩ = some (.string p) ∧ W.cell? ⟨w.heap.size + 1, 0, none⟩ = some (.pointer (some ⟨bb, 0, none⟩)) ∧ W.cell? ⟨w.heap.size + 1, 1, none⟩ = some (.string p))
    (first | exact ⟨e00, e01, e02, e03⟩ | exact boxed2 HBn.out)
    (first
      | (go_at_call 73; (with_reducible refine (q5.out _ (KW.out _ HBn.out)).mono ?_); rintro e wa ⟨Aa, ca, rfl, na, Ba⟩; have n0_ := Aside0.mk (belowAt HBn.out Ba); clear HBn; have HBn := n0_; clear n0_; (try (have m0_ := Aside0.mk (HRb.out.keep (Kept.of Ba)); clear HRb; have HRb := m0_; clear m0_)); have HRa := Aside0.mk na; clear na; clear Ba)
      | (go_at_call 73; (with_reducible refine (q6.out _ (KW.out _ HBn.out)).mono ?_); rintro e wa ⟨Ab, cb, rfl, nb, Bb⟩; have n0_ := Aside0.mk (belowAt HBn.out Bb); clear HBn; have HBn := n0_; clear n0_; (try (have m0_ := Aside0.mk (HRa.out.keep (Kept.of Bb)); clear HRa; have HRa := m0_; clear m0_)); have HRb := Aside0.mk nb; clear nb; clear Bb))
  clear e00 e01 e02 e03 q3 q4 q5 q6
  go_wp2_with fail
  go_loopg [11, 48] (len + 1) (fun kq v11 v48 W => ∃ i : Nat, v48 = .int .i64 (i : Int) ∧ Aside0 (i + kq = len + 1 ∧ i ≤ len) ∧ Aside0 (Below wa.heap.size wa W))
  case atStart => exact ⟨0, rfl, ⟨by omega⟩, ⟨Below.refl _ _⟩⟩
  case round =>
    obtain ⟨i, rfl, HQ, HW⟩ := hrel
    by_cases hlt : i < len
    · have hia : i < a.kids.length := by rw [HE.out]; exact hlt
      have hib : i < b.kids.length := by rw [← HL.out]; exact hia
      have KR := Kept.of HW.out
      obtain ⟨ga, ega, ra0, ra1⟩ := (HRa.out.keep KR).at i hia
      obtain ⟨gb, egb, rb0, rb1⟩ := (HRb.out.keep KR).at i hib
      have q7 := Aside0.mk (HI.out i hia hib wr.drew (KW.out _ (below_drew (belowAt HBn.out HW.out))))
      obtain ⟨ka, eka⟩ : ∃ ka, a.kids[i].b = ka := ⟨_, rfl⟩
      obtain ⟨kb, ekb⟩ : ∃ kb, b.kids[i].b = kb := ⟨_, rfl⟩
      obtain ⟨pa, epa⟩ : ∃ pa, p ++ a.kids[i].label = pa := ⟨_, rfl⟩
      obtain ⟨pb, epb⟩ : ∃ pb, p ++ b.kids[i].label = pb := ⟨_, rfl⟩
      rw [eka, epa, ekb, epb] at q7
      rw [eka] at ra0
      rw [epa] at ra1
      rw [ekb] at rb0
      rw [epb] at rb1
      unfold nodeV ptr at q7
      have hltI : (i : Int) < (len : Int) := by omega
      have ew : IntKind.i64.wrap ((i : Int) + 1) = (i : Int) + 1 := by rw [IntKind.wrap_i64]; omega
      subst ega egb
      clear eka ekb epa epb hia hib KR
      go_wp2_with fail
      go_region_held3 (fun W => W.cell? ⟨ga, i * 2, none⟩ = some (.pointer (some ⟨ka, 0, none⟩)) ∧ W.cell? ⟨ga, i * 2 + 1, none⟩ = some (.string pa) ∧ W.cell? ⟨gb, i * 2, none⟩ = some (.pointer (some ⟨kb, 0, none⟩)) ∧ W.cell? ⟨gb, i * 2 + 1, none⟩ = some (.string pb))
        (first | exact ⟨ra0, ra1, rb0, rb1⟩ | exact ⟨sa0, sa1, sb0, sb1⟩)
        (first
          | (go_at_call 37; (with_reducible refine q7.out.mono ?_); rintro e wz ⟨rfl, Bz⟩; have sa0 := (Kept.of Bz).cell ra0; have sa1 := (Kept.of Bz).cell ra1; have sb0 := (Kept.of Bz).cell rb0; have sb1 := (Kept.of Bz).cell rb1; have HZ := Aside0.mk Bz; clear Bz))
      go_wp2_with fail
      go_roundg (len - i)
      case measure => have := HQ.out; omega
      case rel => exact ⟨i + 1, by simp, ⟨by have := HQ.out; omega⟩, ⟨belowAt (below_drew HW.out) HZ.out⟩⟩
    · have hin : i = len := by have := HQ.out; omega
      subst hin
      go_wp2_with fail
      go_ret
      exact ⟨rfl, belowAt HBW.out (belowAt HBn.out HW.out)⟩
end Go.Proofs.Ytkaeglnnahecjaa.T
/- radix: alike, whole. -/
set_option linter.unusedVariables false
set_option linter.unusedSimpArgs false
namespace Go.Proofs.Ytkaeglnnahecjaa.T
open Go.RowKit Go.Lib Go.Proofs Go.Proofs.YtkaeglnnahecjaaW.PrintWords

theorem vals_kid {n k : Nd} (ho : Ok n) (h : IntVals n) (hk : k ∈ n.kids) : IntVals k := fun r l e => h (L k.label ++ r) l (by rw [findT_kid ho hk]; exact e)
theorem alikeC : ∀ (N : Nat) (a b : Nd) (p : ByteArray) (B : Nat) (w : World), nsz a ≤ N → Sim a b → NdAt w a → NdAt w b → Ok a → Ok b → IntVals a → Fits a B → p.size + (B - a.label.size) < 9000000000000000000 →
    Calls Try.prog 37 #[nodeV a.b p, nodeV b.b p] w (AlikeOk w) := by
  intro N
  induction N with
  | zero =>
    intro a b p B w hN
    cases a with
    | mk _ _ _ ks _ => exfalso; unfold nsz at hN; omega
  | succ N ih =>
    intro a b p B w hN hs ha hb hoa hob hv hf hB
    obtain ⟨hl, hlf, hks⟩ := hs.parts
    obtain ⟨hlen, hsk⟩ := hks.get
    have hfa : ∀ k ∈ a.kids, k.label.size ≤ B - a.label.size ∧ Fits k (B - a.label.size) := fun k hk => by
      have h1 := hf.parts.2.mem k hk
      have h2 := h1.parts.1
      exact ⟨by omega, h1⟩
    have hla : ∃ x ok, lookV a.leaf = .tuple #[.int .i64 x, .bool ok] ∧ lookV b.leaf = .tuple #[.int .i64 x, .bool ok] := by
      cases e1 : a.leaf with
      | none =>
        rw [e1] at hlf
        cases e2 : b.leaf with
        | none => exact ⟨0, false, rfl, rfl⟩
        | some l => rw [e2] at hlf; cases hlf
      | some l =>
        rw [e1] at hlf
        cases e2 : b.leaf with
        | none => rw [e2] at hlf; cases hlf
        | some l' =>
          rw [e2] at hlf
          obtain ⟨v, hv2⟩ := hv [] l (by rw [findT_nil]; exact e1)
          have e3 : l.val = l'.val := Option.some.inj hlf
          exact ⟨v, true, by show Value.tuple #[l.val, .bool true] = _; rw [hv2], by show Value.tuple #[l'.val, .bool true] = _; rw [← e3, hv2]⟩
    obtain ⟨x, ok, hva, hvb⟩ := hla
    refine alike_step w a b p ha hb hoa hob x ok hva hvb hlen (fun k hk => by have := (hfa k hk).1; omega) (fun k hk => ?_) ?_
    · obtain ⟨j, hj, ej⟩ := List.getElem_of_mem hk
      have hj' : j < a.kids.length := by omega
      have h1 := (hsk j hj' hj).parts.1
      rw [← ej, ← h1]
      have := (hfa a.kids[j] (List.getElem_mem _)).1
      omega
    · intro i hi hj W hK
      have hka : a.kids[i] ∈ a.kids := List.getElem_mem _
      have hkb : b.kids[i] ∈ b.kids := List.getElem_mem _
      have h1 := (hsk i hi hj).parts.1
      have hsz := nsz_kid hka
      have hfk := hfa _ hka
      have ep : p ++ b.kids[i].label = p ++ a.kids[i].label := by rw [h1]
      rw [ep]
      refine ih a.kids[i] b.kids[i] (p ++ a.kids[i].label) (B - a.label.size) W (by omega) (hsk i hi hj) (NdAt.keep hK _ (ha.parts.choose_spec.2.2.2.mem _ hka)) (NdAt.keep hK _ (hb.parts.choose_spec.2.2.2.mem _ hkb)) (hoa.parts.2.2.get _ hka) (hob.parts.2.2.get _ hkb) (vals_kid hoa hv hka) hfk.2 ?_
      rw [ByteArray.size_append]
      have := hfk.1
      omega
end Go.Proofs.Ytkaeglnnahecjaa.T
/- radix: the calls on a tree of whole numbers, in terms of its values. -/
set_option linter.unusedVariables false
set_option linter.unusedSimpArgs false
namespace Go.Proofs.Ytkaeglnnahecjaa.T
open Go.RowKit Go.Lib Go.Proofs Go.Proofs.YtkaeglnnahecjaaW.PrintWords

/-- a tree of whole numbers at memory -/
structure Tr (w : World) (tb : Nat) (root : Nd) : Prop where
  at_ : TrAt w tb root ((All root).length : Int)
  fine : Fine root
  vals : IntVals root
theorem Tr.keep {w w' : World} {tb : Nat} {root : Nd} (h : Tr w tb root) (k : Kept w w') : Tr w' tb root := ⟨h.at_.keep k, h.fine, h.vals⟩
/-- what Get says of a value -/
def gotV : Option Value → Value
  | none => .tuple #[.int .i64 0, .bool false]
  | some v => .tuple #[v, .bool true]
/-- what a tree that is changed says of the value that was there -/
def wasV (tb : Nat) : Option Value → Value
  | none => .tuple #[ptr tb, .int .i64 0, .bool false]
  | some v => .tuple #[ptr tb, v, .bool true]
theorem newC (w : World) : Calls Try.prog 32 #[] w fun e w' => ∃ tb root, e = .returned (ptr tb) ∧ Tr w' tb root ∧ (∀ r, valT root r = none) ∧ All root = [] ∧ Below w.heap.size w w' := by
  refine (treeNew w).mono ?_
  rintro e w' ⟨tb, b, m, rfl, h1, h2, h3, h4, h5⟩
  exact ⟨tb, emptyN b m, rfl, ⟨by rw [all_empty]; exact h1, fine_empty b m, vals_empty b m⟩, valT_empty b m, all_empty b m, h5⟩
theorem lenC (w : World) (tb : Nat) (root : Nd) (h : Tr w tb root) : Calls Try.prog 24 #[ptr tb] w fun e w' => e = .returned (.int .i64 ((All root).length : Int)) ∧ w' = w := treeLen w tb root _ h.at_
theorem getC (w : World) (tb : Nat) (root : Nd) (h : Tr w tb root) (k : ByteArray) (hk : k.size < 4000000000000) : Calls Try.prog 25 #[ptr tb, .string k] w fun e w' => e = .returned (gotV (valT root (L k))) ∧ Below w.heap.size w w' := by
  refine (treeGet w tb root _ k h.at_ h.fine.ok h.fine.sm h.fine.top hk).mono ?_
  rintro e w' ⟨rfl, hB⟩
  refine ⟨?_, hB⟩
  rw [seek_eq h.fine.toGood]
  unfold valT
  cases findT root (L k) <;> rfl
theorem insC (w : World) (tb : Nat) (root : Nd) (h : Tr w tb root) (k : ByteArray) (v : Int) (hk : k.size < 4000000000000) (hs : (All root).length < 3999999999999) :
    Calls Try.prog 36 #[ptr tb, .string k, .int .i64 v] w fun e w' => ∃ tb' root', e = .returned (wasV tb' (valT root (L k))) ∧ Tr w' tb' root' ∧ (∀ r, valT root' r = if r = L k then some (.int .i64 v) else valT root r) ∧ (All root').length ≤ (All root).length + 1 ∧ Below w.heap.size w w' := by
  refine (treeInsert w tb root _ v k h.at_ h.fine.ok h.fine.sm hk (by omega) (by omega)).mono ?_
  rintro e w' ⟨tb', lb, m, ns, had, old, rfl, h1, h2, h3, h4, h5, h6, hB⟩
  have hg := fine_ins h.fine k hk ⟨lb, k, .int .i64 v, m⟩ rfl ns
  have hl := len_ins h.fine.toGood k ⟨lb, k, .int .i64 v, m⟩ ns hg.toGood
  rw [find_eq h.fine.toGood] at h2
  refine ⟨tb', insN root k ⟨lb, k, .int .i64 v, m⟩ ns, ?_, ⟨?_, hg, vals_ins h.fine.toGood h.vals k _ v rfl ns⟩, valT_ins h.fine.toGood k _ ns, ?_, hB⟩
  · unfold valT
    cases e : findT root (L k) with
    | none => rw [e] at h2; cases h2; rfl
    | some l => rw [e] at h2; cases h2; rfl
  · have e : (All root).length + incr had = ((All (insN root k ⟨lb, k, .int .i64 v, m⟩ ns)).length : Int) := by
      rw [hl]
      cases e : findT root (L k) with
      | none => rw [e] at h2; cases h2; rfl
      | some l => rw [e] at h2; cases h2; rfl
    rw [← e]
    exact h1
  · have : (if findT root (L k) = none then (1 : Int) else 0) ≤ 1 := by split <;> omega
    omega
theorem delC (w : World) (tb : Nat) (root : Nd) (h : Tr w tb root) (k : ByteArray) (hk : k.size < 4000000000000) (hs : (All root).length < 3999999999999) :
    Calls Try.prog 27 #[ptr tb, .string k] w fun e w' => ∃ tb' root', e = .returned (wasV tb' (valT root (L k))) ∧ Tr w' tb' root' ∧ (∀ r, valT root' r = if r = L k then none else valT root r) ∧ (All root').length ≤ (All root).length ∧ Below w.heap.size w w' := by
  cases e : findT root (L k) with
  | none =>
    refine (treeDelete_none w tb root _ k h.at_ h.fine hk e).mono ?_
    rintro e' w' ⟨rfl, rfl⟩
    refine ⟨tb, root, by unfold valT; rw [e]; rfl, h, fun r => ?_, Nat.le_refl _, Below.refl _ _⟩
    split
    · rename_i hr; subst hr; unfold valT; rw [e]; rfl
    · rfl
  | some l =>
    obtain ⟨v, hv⟩ := h.vals _ l e
    have hpos : 0 < (All root).length := by
      have := (mem_all h.fine.toGood _ l).2 e
      exact List.length_pos_of_mem this
    refine (treeDelete_some w tb root _ k l v h.at_ h.fine hk (by omega) (by omega) e hv).mono ?_
    rintro e' w' ⟨tb', m, ns, rfl, h1, h2, h3, h4, hB⟩
    obtain ⟨f1, f2, f3⟩ := fine_del h.fine k l ns h2
    have hl := len_del h.fine k l ns h2
    refine ⟨tb', m, ?_, ⟨by rw [hl]; exact h1, f1, fun r l' e' => ?_⟩, valT_del h.fine k l ns h2, by omega, hB⟩
    · unfold valT; rw [e]; show _ = Ending.returned (.tuple #[ptr tb', l.val, .bool true]); rw [hv]
    · rw [f3] at e'
      split at e'
      · cases e'
      · exact h.vals r l' e'
end Go.Proofs.Ytkaeglnnahecjaa.T
/- radix: built, in terms of values. -/
set_option linter.unusedVariables false
set_option linter.unusedSimpArgs false
namespace Go.Proofs.Ytkaeglnnahecjaa.T
open Go.RowKit Go.Lib Go.Proofs Go.Proofs.YtkaeglnnahecjaaW.PrintWords

set_option maxHeartbeats 4000000 in
set_option maxRecDepth 100000 in
theorem builtC (w : World) (A : Option Addr) (c : Nat) (ks : List ByteArray) (hA : Strs w A ks) (hn : ks.length < 1000000000000) (hk : ∀ k ∈ ks, k.size < 4000000000000) :
    Calls Try.prog 12 #[.slice A ks.length c] w fun e w' => ∃ tb root, e = .returned (ptr tb) ∧ Tr w' tb root ∧ (∀ r, valT root r = numV (lastI ks ks.length r)) ∧ (All root).length ≤ ks.length ∧ Below w.heap.size w w' := by
  have HA := Aside0.mk hA
  have HK := Aside0.mk hk
  have q0 := Aside0.mk (newC w)
  obtain ⟨n, en⟩ : ∃ n, ks.length = n := ⟨_, rfl⟩
  have HN := Aside0.mk en
  rw [en] at hn ⊢
  clear hA hk en
  go_enter Try.func12, Try.ntmps12
  go_wp2_with (go_at_call 32; refine q0.out.mono ?_)
  rintro e w1 ⟨tb, root, rfl, ht, hv, hl, hB⟩
  have H1 := Aside0.mk (And.intro ht (And.intro hv (And.intro hl hB)))
  clear ht hv hl hB q0
  unfold ptr
  go_wp2_with fail
  go_loopg [3, 9] (n + 1) (fun kq v3 v9 w' => ∃ (i tb : Nat) (root : Nd), v3 = .pointer (some ⟨tb, 0, none⟩) ∧ v9 = .int .i64 (i : Int) ∧ Aside0 (i + kq = n + 1 ∧ i ≤ n) ∧ Aside0 (Tr w' tb root ∧ (∀ r, valT root r = numV (lastI ks i r)) ∧ (All root).length ≤ i) ∧ Aside0 (Below w.heap.size w w'))
  case atStart => exact ⟨0, tb, root, rfl, rfl, ⟨by omega⟩, ⟨H1.out.1, H1.out.2.1, by rw [H1.out.2.2.1]; exact Nat.le_refl _⟩, ⟨H1.out.2.2.2⟩⟩
  case round =>
    obtain ⟨i, tb, root, rfl, rfl, HI, HT, HB⟩ := hrel
    by_cases hi : i < n
    · have hi' : i < ks.length := by rw [HN.out]; exact hi
      obtain ⟨ad, ea, ka⟩ := (HA.out.keep (Kept.of HB.out)) i hi'
      obtain ⟨k, ek⟩ : ∃ k, ks[i] = k := ⟨_, rfl⟩
      rw [ek] at ka
      have hks : k.size < 4000000000000 := HK.out k (by rw [← ek]; exact List.getElem_mem _)
      have HKE := Aside0.mk (show ks.getD i ⟨#[]⟩ = k by rw [getD_get hi', ek])
      subst ea
      have q1 := insC wr tb root HT.out.1 k (i : Int) hks (by have := HT.out.2.2; omega)
      obtain ⟨o, eo⟩ : ∃ o, valT root (L k) = o := ⟨_, rfl⟩
      rw [eo] at q1
      have hform : ∀ tb' : Nat, ∃ a b, wasV tb' o = .tuple #[ptr tb', a, .bool b] := fun tb' => by cases o <;> exact ⟨_, _, rfl⟩
      have HF := Aside0.mk hform
      have q2 := Aside0.mk q1
      clear ek hi' q1 eo hform
      unfold ptr at q2
      go_wp2_with (go_at_call 36; refine q2.out.mono ?_)
      rintro e w2 ⟨tb2, root2, rfl, ht, hv, hl, hb⟩
      obtain ⟨a, b, eab⟩ := HF.out tb2
      rw [eab]
      have H2 := Aside0.mk (And.intro ht (And.intro hv (And.intro hl hb)))
      clear ht hv hl hb q2 eab HF
      unfold ptr
      go_wp2_with fail
      go_roundg (n - i)
      case measure => have := HI.out; omega
      case rel =>
        refine ⟨i + 1, tb2, root2, rfl, by simp, ⟨by have := HI.out; omega⟩, ⟨H2.out.1, fun r => ?_, by have := H2.out.2.2.1; have := HT.out.2.2; omega⟩, ⟨belowAt HB.out H2.out.2.2.2⟩⟩
        rw [H2.out.2.1 r, lastI, HKE.out, HT.out.2.1 r]
        split <;> rfl
    · have hin : i = n := by have := HI.out; omega
      subst hin
      go_wp2_with fail
      go_ret
      exact ⟨tb, root, rfl, HT.out.1, HT.out.2.1, HT.out.2.2, HB.out⟩
end Go.Proofs.Ytkaeglnnahecjaa.T
