/- radix: the place of a kid (slices.BinarySearchFunc over the kids' first bytes). -/
import Derived.Test.YtkaeglnnahecjaaR0
set_option linter.unusedVariables false
set_option linter.unusedSimpArgs false
namespace Go.Proofs.Ytkaeglnnahecjaa.T
open Go.RowKit Go.Proofs.YtkaeglnnahecjaaW.PrintWords

theorem blk_cell {w : World} {b : Nat} {cs : Array Value} {t : TypeId} {f : Nat × Nat} (h : w.heap[b]? = some (.cells cs t f)) (i : Nat) : w.cell? ⟨b, i, none⟩ = cs[i]? := Lib.cell_of_heap h i
theorem byte0 (s : ByteArray) (h : 0 < s.size) : (s[0].toNat : Nat) = (s.data.toList.getD 0 0).toNat := by
  have e : s[0] = s.data[0]'h := rfl
  rw [e]
  have h2 : 0 < s.data.toList.length := by rw [Array.length_toList]; exact h
  rw [List.getD_eq_getElem?_getD, List.getElem?_eq_getElem h2]
  simp
theorem byteAt (s : ByteArray) (i : Nat) (h : i < s.size) : (s[i].toNat : Nat) = (s.data.toList.getD i 0).toNat := by
  have e : s[i] = s.data[i]'h := rfl
  rw [e]
  have h2 : i < s.data.toList.length := by rw [Array.length_toList]; exact h
  rw [List.getD_eq_getElem?_getD, List.getElem?_eq_getElem h2]
  simp
set_option maxHeartbeats 4000000 in
set_option maxRecDepth 100000 in
theorem kid1 (w : World) (b : Nat) (label : ByteArray) (lp kv m : Value) (x : Nat) (hb : w.heap[b]? = some (.cells #[.string label, lp, kv, m] 125 (0, 0))) (hl : 0 < label.size) (hx : x < 256) :
    Calls Try.prog 121 #[ptr b, .int .u8 x] w fun e w' => e = .returned (.int .i64 (((label.data.toList.getD 0 0).toNat : Int) - x)) ∧ w' = w := by
  have c0 : w.cell? ⟨b, 0, none⟩ = some (.string label) := by rw [blk_cell hb]; rfl
  unfold ptr
  clear hb
  go_enter Try.func121, Try.ntmps121
  go_wp2_with fail
  go_ret
  have h0 := byte0 label hl
  have h1 : label[0].toNat < 256 := label[0].toNat_lt
  have e1 : wrap64 (label[0].toNat : Int) = label[0].toNat := by unfold wrap64; omega
  have e2 : wrap64 ((label[0].toNat : Int) - x) = (label[0].toNat : Int) - x := by unfold wrap64; omega
  rw [← h0, e1, e2]
  exact ⟨rfl, rfl⟩
def hit (fs : List Nat) (x : Nat) : Bool := decide (fs[pos fs x]? = some x)
theorem NdAt.parts {w : World} {n : Nd} (h : NdAt w n) : ∃ kv, w.heap[n.b]? = some (.cells #[.string n.label, leafPtr n.leaf, kv, n.mark] 125 (0, 0)) ∧ Row w kv (ptrs n.kids) ∧ LfAt w n.leaf ∧ NdsAt w n.kids := by
  cases n with
  | mk b label leaf kids mark =>
    unfold NdAt at h
    obtain ⟨⟨kv, h1, h2⟩, h3, h4, _⟩ := h
    exact ⟨kv, h1, h2, h3, h4⟩
theorem NdAt.markP {w : World} {n : Nd} (h : NdAt w n) : ∃ mb, n.mark = ptr mb := by
  cases n with
  | mk b label leaf kids mark =>
    unfold NdAt at h
    exact h.2.2.2
set_option maxHeartbeats 4000000 in
set_option maxRecDepth 100000 in
theorem bsearch (w : World) (kv : Value) (ks : List Nd) (x : Nat) (hr : Row w kv (ptrs ks)) (hk : NdsAt w ks) (hs : (ks.map fb).Pairwise (· < ·)) (hp : ∀ k ∈ ks, 0 < k.label.size) (hx : x < 256) (hz : ks.length < 1000000000000) :
    Calls Try.prog 120 #[kv, .int .u8 x, .func (.func 121) #[] #[]] w fun e w' => e = .returned (.tuple #[.int .i64 (pos (ks.map fb) x), .bool (hit (ks.map fb) x)]) ∧ w' = w := by
  obtain ⟨A, c, rfl, hA⟩ := hr.open
  have hlen : (ptrs ks).length = ks.length := by simp [ptrs]
  rw [hlen]
  have HA := Aside0.mk (show ∀ i (h : i < ks.length), ∃ ad, A = some ad ∧ w.cell? (ad.add i) = some (ptr ks[i].b) from fun i h => by
    obtain ⟨ad, h1, h2⟩ := hA i (by rw [hlen]; exact h)
    exact ⟨ad, h1, by simpa [ptrs] using h2⟩)
  have HK := Aside0.mk hk
  have HS := Aside0.mk (And.intro hs hp)
  clear hA hk hs hp hlen
  go_enter Try.func120, Try.ntmps120
  go_wp2_with fail
  go_loopg [9, 10] (ks.length + 1) (fun kq v9 v10 w' => ∃ (i j : Nat), v9 = .int .i64 (i : Int) ∧ v10 = .int .i64 (j : Int) ∧ Aside0 (i ≤ j ∧ j ≤ ks.length ∧ j + 1 ≤ kq + i) ∧ Aside0 (∀ t (h : t < (ks.map fb).length), t < i → (ks.map fb)[t] < x) ∧
     Aside0 (∀ t (h : t < (ks.map fb).length), j ≤ t → x ≤ (ks.map fb)[t]) ∧ Aside0 (w' = w))
  case atStart =>
    refine ⟨0, ks.length, rfl, rfl, ⟨by omega, by omega, by omega⟩, ⟨fun t h h2 => by omega⟩, ⟨fun t h h2 => by simp at h; omega⟩, ⟨rfl⟩⟩
  case round =>
    obtain ⟨i, j, rfl, rfl, HI, HL, HG, HH⟩ := hrel
    by_cases hij : i < j
    · have hm : (i + j) / 2 < ks.length := by have := HI.out; omega
      obtain ⟨ad, ea, ka⟩ := HA.out ((i + j) / 2) hm
      obtain ⟨kvm, k1, _, _, _⟩ := (HK.out.get _ hm).parts
      have hlb := HS.out.2 ks[(i + j) / 2] (List.getElem_mem _)
      obtain ⟨bm, ebm⟩ : ∃ bm, ks[(i + j) / 2].b = bm := ⟨_, rfl⟩
      obtain ⟨lm, elm⟩ : ∃ lm, ks[(i + j) / 2].label = lm := ⟨_, rfl⟩
      rw [ebm] at ka k1
      rw [elm] at k1 hlb
      have efb : ∀ (h : (i + j) / 2 < (ks.map fb).length), (ks.map fb)[(i + j) / 2] = (lm.data.toList.getD 0 0).toNat := fun h => by rw [← elm]; simp [fb]
      have HE := Aside0.mk efb
      subst ea
      clear ebm elm efb
      have ka' : wr.cell? (ad.add ((i + j) / 2)) = some (ptr bm) := by rw [HH.out]; exact ka
      have k1' : wr.heap[bm]? = some (.cells #[.string lm, leafPtr ks[(i + j) / 2].leaf, kvm, ks[(i + j) / 2].mark] 125 (0, 0)) := by rw [HH.out]; exact k1
      have q0 := kid1 wr bm lm _ _ _ x k1' hlb hx
      obtain ⟨y, ey⟩ : ∃ y, (lm.data.toList.getD 0 0).toNat = y := ⟨_, rfl⟩
      have efb := HE.out
      rw [ey] at q0 efb
      have q1 := Aside0.mk q0
      have HY := Aside0.mk efb
      have hm2 : (i + j) / 2 < (ks.map fb).length := by rw [List.length_map]; exact hm
      have HM := Aside0.mk hm2
      clear ka k1 k1' hlb q0 efb HE ey hm2
      go_wp2_with (go_at_call 121; refine q1.out.mono ?_)
      rintro e w' ⟨rfl, rfl⟩
      clear q1 ka'
      by_cases hlt : y < x
      · go_wp2_with fail
        go_roundg (j - i)
        case measure => have := HI.out; omega
        case rel =>
          refine ⟨(i + j) / 2 + 1, j, by simp, rfl, ⟨by have := HI.out; omega⟩, ⟨fun t h h2 => ?_⟩, HG, HH⟩
          have := HY.out HM.out
          by_cases e : t = (i + j) / 2
          · subst e; omega
          · have := List.pairwise_iff_getElem.1 HS.out.1 t ((i + j) / 2) h HM.out (by omega)
            omega
      · go_wp2_with fail
        go_roundg (j - i)
        case measure => have := HI.out; omega
        case rel =>
          refine ⟨i, (i + j) / 2, rfl, by simp, ⟨by have := HI.out; omega⟩, HL, ⟨fun t h h2 => ?_⟩, HH⟩
          have := HY.out HM.out
          by_cases e : t = (i + j) / 2
          · subst e; omega
          · have := List.pairwise_iff_getElem.1 HS.out.1 ((i + j) / 2) t HM.out h (by omega)
            omega
    · have hj : i = j := by have := HI.out; omega
      subst hj
      have hpos : pos (ks.map fb) x = i := pos_unique _ x i HS.out.1 (by have := HI.out; rw [List.length_map]; omega) (fun t h h2 => HL.out t h h2) (fun h => HG.out i h (Nat.le_refl _))
      have HP := Aside0.mk hpos
      clear hpos
      by_cases hin : i < ks.length
      · obtain ⟨ad, ea, ka⟩ := HA.out i hin
        obtain ⟨kvm, k1, _, _, _⟩ := (HK.out.get _ hin).parts
        have hlb := HS.out.2 ks[i] (List.getElem_mem _)
        subst ea
        have ka' : wr.cell? (ad.add i) = some (ptr ks[i].b) := by rw [HH.out]; exact ka
        rw [← HH.out] at k1
        have q0 := kid1 wr ks[i].b ks[i].label _ _ _ x k1 hlb hx
        obtain ⟨y, ey⟩ : ∃ y, (ks[i].label.data.toList.getD 0 0).toNat = y := ⟨_, rfl⟩
        rw [ey] at q0
        have q1 := Aside0.mk q0
        have HY := Aside0.mk ey
        obtain ⟨bm, ebm⟩ : ∃ bm, ks[i].b = bm := ⟨_, rfl⟩
        rw [ebm] at q1 ka'
        clear ka k1 hlb q0 ey ebm
        go_wp2_with (go_at_call 121; refine q1.out.mono ?_)
        rintro e w' ⟨rfl, rfl⟩
        clear q1 ka'
        go_wp2_with fail
        go_ret2
        refine ⟨?_, HH.out⟩
        have e1 : (((y : Int) - x) == 0) = hit (ks.map fb) x := by
          unfold hit
          rw [HP.out, List.getElem?_eq_getElem (by rw [List.length_map]; exact hin)]
          have e2 : (ks.map fb)[i]'(by rw [List.length_map]; exact hin) = y := by rw [← HY.out]; simp [fb]
          rw [e2]
          by_cases e3 : y = x
          · subst e3; simp
          · have : ¬ ((y : Int) - x = 0) := by omega
            simp [this, e3]
        rw [HP.out, ← e1]
        rfl
      · go_wp2_with fail
        go_ret2
        refine ⟨?_, HH.out⟩
        have e1 : hit (ks.map fb) x = false := by
          unfold hit
          rw [HP.out, List.getElem?_eq_none (by rw [List.length_map]; omega)]
          rfl
        rw [HP.out, e1]
        rfl
set_option maxHeartbeats 4000000 in
set_option maxRecDepth 100000 in
theorem kidOf (w : World) (b : Nat) (label : ByteArray) (lp kv m : Value) (ks : List Nd) (x : Nat) (hb : w.heap[b]? = some (.cells #[.string label, lp, kv, m] 125 (0, 0))) (hr : Row w kv (ptrs ks)) (hk : NdsAt w ks) (hs : (ks.map fb).Pairwise (· < ·)) (hp : ∀ k ∈ ks, 0 < k.label.size) (hx : x < 256) (hz : ks.length < 1000000000000) :
    Calls Try.prog 98 #[ptr b, .int .u8 x] w fun e w' => e = .returned (.tuple #[.int .i64 (pos (ks.map fb) x), .bool (hit (ks.map fb) x)]) ∧ w' = w := by
  have c2 : w.cell? ⟨b, 2, none⟩ = some kv := by rw [blk_cell hb]; rfl
  have q1 := Aside0.mk (bsearch w kv ks x hr hk hs hp hx hz)
  unfold ptr
  clear hb hr hk hs hp
  go_enter Try.func98, Try.ntmps98
  go_wp2_with (go_at_call 120; refine q1.out.mono ?_)
  rintro e w' ⟨rfl, rfl⟩
  go_wp2_with fail
  go_ret2
  exact ⟨rfl, rfl⟩
end Go.Proofs.Ytkaeglnnahecjaa.T
