/- radix: the way down, with each of its closures. -/
import Derived.Test.YtkaeglnnahecjaaR12
set_option linter.unusedVariables false
set_option linter.unusedSimpArgs false
namespace Go.Proofs.Ytkaeglnnahecjaa.T
open Go.RowKit Go.Lib Go.Proofs Go.Proofs.YtkaeglnnahecjaaW.PrintWords

/-- what the steps down k's way make of s -/
def wayF {σ : Type} (step : σ → Nd → Nat → σ) (k : ByteArray) : Nat → Option Nd → Nat → σ → σ
  | 0, _, _, s => s
  | _ + 1, none, _, s => s
  | f + 1, some n, at_, s => wayF step k f (downN n (k.extract (at_ + n.label.size) k.size)) (at_ + n.label.size) (step s n (at_ + n.label.size))
theorem wayF_none {σ : Type} (step : σ → Nd → Nat → σ) (k : ByteArray) (f a : Nat) (s : σ) : wayF step k f none a s = s := by cases f <;> rfl
theorem downN_some {n m : Nd} {rest : ByteArray} (h : downN n rest = some m) : m ∈ n.kids ∧ m.label.size ≤ rest.size := by
  unfold downN at h
  split at h
  · cases h
  · obtain ⟨k, hk, h2⟩ := Option.bind_eq_some_iff.1 h
    obtain ⟨_, hlt, ek⟩ := kidN_some hk
    split at h2
    · rename_i hp
      cases h2
      refine ⟨by rw [← ek]; exact List.getElem_mem _, ?_⟩
      have h3 := (List.isPrefixOf_iff_prefix.1 hp).length_le
      rw [Array.length_toList, Array.length_toList] at h3
      exact h3
    · cases h2
theorem optPtr_form (o : Option Nd) : ∃ p, optPtr o = .pointer p := by cases o with | none => exact ⟨_, rfl⟩ | some l => exact ⟨_, rfl⟩
/-- a node where way stands -/
structure Stand (wB : World) (k : ByteArray) (n : Nd) (a : Nat) : Prop where
  at_ : NdAt wB n
  ok : Ok n
  sm : Sm n
  le : a + n.label.size ≤ k.size

set_option maxHeartbeats 4000000 in
set_option maxRecDepth 100000 in
theorem way57 {σ : Type} (step : σ → Nd → Nat → σ) (Inv : σ → World → Prop) (cb : Nat) (wB w : World) (tb : Nat) (root : Nd) (size : Int) (k : ByteArray) (s0 : σ) (hk : k.size < 4000000000000) (hkw : Kept wB w) (hsz : wB.heap.size ≤ w.heap.size) (ht : TrAt wB tb root size) (ho : Ok root) (hsm : Sm root) (hroot : root.label.size = 0)
    (hinv : Inv s0 w)
    (hcall : ∀ s n a w1, Kept wB w1 → wB.heap.size ≤ w1.heap.size → Inv s w1 → NdAt wB n → a ≤ k.size → Calls Try.prog 57 #[ptr n.b, .int .i64 (a : Nat), ptr cb] w1 fun e w' => e = .returned (.tuple #[]) ∧ Inv (step s n a) w' ∧ Below wB.heap.size w1 w') :
    Calls Try.prog 56 #[ptr tb, .string k, .func (.func 57) #[] #[ptr cb]] w fun e w' => e = .returned (.tuple #[]) ∧ Inv (wayF step k (k.size + 2) (some root) 0 s0) w' ∧ Below wB.heap.size w w' := by
  have c0 : w.cell? ⟨tb, 0, none⟩ = some (.pointer (some ⟨root.b, 0, none⟩)) := by rw [blk_cell (hkw.at ht.blk)]; rfl
  have HS := Aside0.mk (Stand.mk ht.root ho hsm (by rw [hroot]; omega) : Stand wB k root 0)
  have HC := Aside0.mk hcall
  have HW := Aside0.mk (And.intro hkw (And.intro hsz (And.intro hinv hroot)))
  clear hcall ht ho hsm hkw hsz hinv hroot
  unfold ptr
  go_enter Try.func56, Try.ntmps56
  go_wp2_with fail
  go_loopg [6, 7] (k.size + 2) (fun kq v6 v7 w' => ∃ (a : Nat) (on : Option Nd) (s : σ) (p : Option Addr), v6 = .int .i64 (a : Int) ∧ v7 = .pointer p ∧ Aside0 (optPtr on = .pointer p ∧ (∀ n, on = some n → Stand wB k n a ∧ k.size + 1 < kq + a + n.label.size) ∧ a ≤ k.size) ∧
    Aside0 (wayF step k kq on a s = wayF step k (k.size + 2) (some root) 0 s0) ∧ Aside0 (Inv s w' ∧ Kept wB w' ∧ wB.heap.size ≤ w'.heap.size ∧ Below wB.heap.size w w'))
  case atStart =>
    refine ⟨0, some root, s0, some ⟨root.b, 0, none⟩, rfl, rfl, ⟨rfl, fun n e => by cases e; exact ⟨HS.out, by have := HW.out.2.2.2; omega⟩, by omega⟩, ⟨rfl⟩, ⟨HW.out.2.2.1, HW.out.1, HW.out.2.1, Below.refl _ _⟩⟩
  case round =>
    obtain ⟨a, on, s, p, rfl, rfl, HO, HF, HI⟩ := hrel
    cases on with
    | none =>
      have ep : p = none := by have := HO.out.1; simpa [optPtr] using this.symm
      subst ep
      go_wp2_with fail
      refine bodyPost_end (results_none rfl _ _ _) rfl ?_
      refine ⟨rfl, ?_, HI.out.2.2.2⟩
      rw [← HF.out, wayF_none]
      exact HI.out.1
    | some n =>
      have ep : p = some ⟨n.b, 0, none⟩ := by have := HO.out.1; simpa [optPtr, ptr] using this.symm
      subst ep
      obtain ⟨hst, hq⟩ := HO.out.2.1 n rfl
      obtain ⟨kvn, hbn, _, _, _⟩ := hst.at_.parts
      have cl : wr.cell? ⟨n.b, 0, none⟩ = some (.string n.label) := by rw [blk_cell (HI.out.2.1.at hbn)]; rfl
      have hle := hst.le
      obtain ⟨a2, ea2⟩ : ∃ a2, a + n.label.size = a2 := ⟨_, rfl⟩
      have ha2 : a2 ≤ k.size := by omega
      have ha2I : (a2 : Int) ≤ (k.size : Int) := by omega
      have ew : wrap64 ((a : Int) + (n.label.size : Int)) = (a2 : Int) := by unfold wrap64; omega
      have ew2 : (a : Int) + (n.label.size : Int) = (a2 : Int) := by omega
      have q1 := Aside0.mk (HC.out s n a2 wr HI.out.2.1 HI.out.2.2.1 HI.out.1 hst.at_ ha2)
      have HST := Aside0.mk (And.intro hst (And.intro hq ea2))
      have HEW := Aside0.mk ew
      clear hst hq hbn hle ea2 ew
      unfold ptr at q1
      go_wp2_with (go_at_call 57; refine q1.out.mono ?_)
      rintro e w2 ⟨rfl, hi2, hb2⟩
      have hs2 := hb2.size
      have hk2 : Kept wB w2 := fun x hx => (hb2.block x hx).trans (HI.out.2.1 x hx)
      obtain ⟨p2, ep2⟩ := optPtr_form (downN n (k.extract a2 k.size))
      have q2 := downC w2 n (NdAt.keep hk2 n HST.out.1.at_) HST.out.1.ok (k.extract a2 k.size)
      rw [ep2] at q2
      have q3 := Aside0.mk q2
      have H2 := Aside0.mk (And.intro hi2 (And.intro hb2 (And.intro hk2 ep2)))
      clear hi2 hb2 hk2 ep2 q2 q1 hs2
      unfold ptr at q3
      go_wp2_with (go_at_call 93; refine q3.out.mono ?_)
      rintro e w3 ⟨rfl, rfl⟩
      clear q3
      go_wp2_with fail
      obtain ⟨hst, hq, ea2⟩ := HST.out
      cases hgk : gk with
      | zero => exfalso; have := hst.le; rw [hgk] at hq; omega
      | succ g1 =>
        go_roundg g1
        case measure => omega
        case rel =>
          obtain ⟨hi2, hb2, hk2, ep2⟩ := H2.out
          have hf := HF.out
          rw [hgk] at hf
          unfold wayF at hf
          rw [ea2] at hf
          refine ⟨a2, downN n (k.extract a2 k.size), step s n a2, p2, rfl, rfl, ⟨ep2, fun m em => ?_, ha2⟩, ⟨hf⟩, ⟨hi2, hk2, by have := HI.out.2.2.1; have := hb2.size; omega, HI.out.2.2.2.trans hb2⟩⟩
          obtain ⟨hm, hml⟩ := downN_some em
          have hse : (k.extract a2 k.size).size = k.size - a2 := by simp only [ByteArray.size_extract]; omega
          have hpos := hst.ok.parts.2.1 m hm
          obtain ⟨ii, hii, eii⟩ := List.getElem_of_mem hm
          refine ⟨⟨?_, hst.ok.parts.2.2.get m hm, hst.sm.parts.2.mem m hm, by omega⟩, by rw [hgk] at hq; omega⟩
          rw [← eii]
          exact hst.at_.parts.choose_spec.2.2.2.get ii hii

set_option maxHeartbeats 4000000 in
set_option maxRecDepth 100000 in
theorem way64 {σ : Type} (step : σ → Nd → Nat → σ) (Inv : σ → World → Prop) (cb : Nat) (wB w : World) (tb : Nat) (root : Nd) (size : Int) (k : ByteArray) (s0 : σ) (hk : k.size < 4000000000000) (hkw : Kept wB w) (hsz : wB.heap.size ≤ w.heap.size) (ht : TrAt wB tb root size) (ho : Ok root) (hsm : Sm root) (hroot : root.label.size = 0)
    (hinv : Inv s0 w)
    (hcall : ∀ s n a w1, Kept wB w1 → wB.heap.size ≤ w1.heap.size → Inv s w1 → NdAt wB n → a ≤ k.size → Calls Try.prog 64 #[ptr n.b, .int .i64 (a : Nat), ptr cb] w1 fun e w' => e = .returned (.tuple #[]) ∧ Inv (step s n a) w' ∧ Below wB.heap.size w1 w') :
    Calls Try.prog 56 #[ptr tb, .string k, .func (.func 64) #[] #[ptr cb]] w fun e w' => e = .returned (.tuple #[]) ∧ Inv (wayF step k (k.size + 2) (some root) 0 s0) w' ∧ Below wB.heap.size w w' := by
  have c0 : w.cell? ⟨tb, 0, none⟩ = some (.pointer (some ⟨root.b, 0, none⟩)) := by rw [blk_cell (hkw.at ht.blk)]; rfl
  have HS := Aside0.mk (Stand.mk ht.root ho hsm (by rw [hroot]; omega) : Stand wB k root 0)
  have HC := Aside0.mk hcall
  have HW := Aside0.mk (And.intro hkw (And.intro hsz (And.intro hinv hroot)))
  clear hcall ht ho hsm hkw hsz hinv hroot
  unfold ptr
  go_enter Try.func56, Try.ntmps56
  go_wp2_with fail
  go_loopg [6, 7] (k.size + 2) (fun kq v6 v7 w' => ∃ (a : Nat) (on : Option Nd) (s : σ) (p : Option Addr), v6 = .int .i64 (a : Int) ∧ v7 = .pointer p ∧ Aside0 (optPtr on = .pointer p ∧ (∀ n, on = some n → Stand wB k n a ∧ k.size + 1 < kq + a + n.label.size) ∧ a ≤ k.size) ∧
    Aside0 (wayF step k kq on a s = wayF step k (k.size + 2) (some root) 0 s0) ∧ Aside0 (Inv s w' ∧ Kept wB w' ∧ wB.heap.size ≤ w'.heap.size ∧ Below wB.heap.size w w'))
  case atStart =>
    refine ⟨0, some root, s0, some ⟨root.b, 0, none⟩, rfl, rfl, ⟨rfl, fun n e => by cases e; exact ⟨HS.out, by have := HW.out.2.2.2; omega⟩, by omega⟩, ⟨rfl⟩, ⟨HW.out.2.2.1, HW.out.1, HW.out.2.1, Below.refl _ _⟩⟩
  case round =>
    obtain ⟨a, on, s, p, rfl, rfl, HO, HF, HI⟩ := hrel
    cases on with
    | none =>
      have ep : p = none := by have := HO.out.1; simpa [optPtr] using this.symm
      subst ep
      go_wp2_with fail
      refine bodyPost_end (results_none rfl _ _ _) rfl ?_
      refine ⟨rfl, ?_, HI.out.2.2.2⟩
      rw [← HF.out, wayF_none]
      exact HI.out.1
    | some n =>
      have ep : p = some ⟨n.b, 0, none⟩ := by have := HO.out.1; simpa [optPtr, ptr] using this.symm
      subst ep
      obtain ⟨hst, hq⟩ := HO.out.2.1 n rfl
      obtain ⟨kvn, hbn, _, _, _⟩ := hst.at_.parts
      have cl : wr.cell? ⟨n.b, 0, none⟩ = some (.string n.label) := by rw [blk_cell (HI.out.2.1.at hbn)]; rfl
      have hle := hst.le
      obtain ⟨a2, ea2⟩ : ∃ a2, a + n.label.size = a2 := ⟨_, rfl⟩
      have ha2 : a2 ≤ k.size := by omega
      have ha2I : (a2 : Int) ≤ (k.size : Int) := by omega
      have ew : wrap64 ((a : Int) + (n.label.size : Int)) = (a2 : Int) := by unfold wrap64; omega
      have ew2 : (a : Int) + (n.label.size : Int) = (a2 : Int) := by omega
      have q1 := Aside0.mk (HC.out s n a2 wr HI.out.2.1 HI.out.2.2.1 HI.out.1 hst.at_ ha2)
      have HST := Aside0.mk (And.intro hst (And.intro hq ea2))
      have HEW := Aside0.mk ew
      clear hst hq hbn hle ea2 ew
      unfold ptr at q1
      go_wp2_with (go_at_call 64; refine q1.out.mono ?_)
      rintro e w2 ⟨rfl, hi2, hb2⟩
      have hs2 := hb2.size
      have hk2 : Kept wB w2 := fun x hx => (hb2.block x hx).trans (HI.out.2.1 x hx)
      obtain ⟨p2, ep2⟩ := optPtr_form (downN n (k.extract a2 k.size))
      have q2 := downC w2 n (NdAt.keep hk2 n HST.out.1.at_) HST.out.1.ok (k.extract a2 k.size)
      rw [ep2] at q2
      have q3 := Aside0.mk q2
      have H2 := Aside0.mk (And.intro hi2 (And.intro hb2 (And.intro hk2 ep2)))
      clear hi2 hb2 hk2 ep2 q2 q1 hs2
      unfold ptr at q3
      go_wp2_with (go_at_call 93; refine q3.out.mono ?_)
      rintro e w3 ⟨rfl, rfl⟩
      clear q3
      go_wp2_with fail
      obtain ⟨hst, hq, ea2⟩ := HST.out
      cases hgk : gk with
      | zero => exfalso; have := hst.le; rw [hgk] at hq; omega
      | succ g1 =>
        go_roundg g1
        case measure => omega
        case rel =>
          obtain ⟨hi2, hb2, hk2, ep2⟩ := H2.out
          have hf := HF.out
          rw [hgk] at hf
          unfold wayF at hf
          rw [ea2] at hf
          refine ⟨a2, downN n (k.extract a2 k.size), step s n a2, p2, rfl, rfl, ⟨ep2, fun m em => ?_, ha2⟩, ⟨hf⟩, ⟨hi2, hk2, by have := HI.out.2.2.1; have := hb2.size; omega, HI.out.2.2.2.trans hb2⟩⟩
          obtain ⟨hm, hml⟩ := downN_some em
          have hse : (k.extract a2 k.size).size = k.size - a2 := by simp only [ByteArray.size_extract]; omega
          have hpos := hst.ok.parts.2.1 m hm
          obtain ⟨ii, hii, eii⟩ := List.getElem_of_mem hm
          refine ⟨⟨?_, hst.ok.parts.2.2.get m hm, hst.sm.parts.2.mem m hm, by omega⟩, by rw [hgk] at hq; omega⟩
          rw [← eii]
          exact hst.at_.parts.choose_spec.2.2.2.get ii hii

set_option maxHeartbeats 4000000 in
set_option maxRecDepth 100000 in
theorem way96 {σ : Type} (step : σ → Nd → Nat → σ) (Inv : σ → World → Prop) (kb cb : Nat) (wB w : World) (tb : Nat) (root : Nd) (size : Int) (k : ByteArray) (s0 : σ) (hk : k.size < 4000000000000) (hkw : Kept wB w) (hsz : wB.heap.size ≤ w.heap.size) (ht : TrAt wB tb root size) (ho : Ok root) (hsm : Sm root) (hroot : root.label.size = 0)
    (hinv : Inv s0 w)
    (hcall : ∀ s n a w1, Kept wB w1 → wB.heap.size ≤ w1.heap.size → Inv s w1 → NdAt wB n → a ≤ k.size → Calls Try.prog 96 #[ptr n.b, .int .i64 (a : Nat), ptr kb, ptr cb] w1 fun e w' => e = .returned (.tuple #[]) ∧ Inv (step s n a) w' ∧ Below wB.heap.size w1 w') :
    Calls Try.prog 56 #[ptr tb, .string k, .func (.func 96) #[] #[ptr kb, ptr cb]] w fun e w' => e = .returned (.tuple #[]) ∧ Inv (wayF step k (k.size + 2) (some root) 0 s0) w' ∧ Below wB.heap.size w w' := by
  have c0 : w.cell? ⟨tb, 0, none⟩ = some (.pointer (some ⟨root.b, 0, none⟩)) := by rw [blk_cell (hkw.at ht.blk)]; rfl
  have HS := Aside0.mk (Stand.mk ht.root ho hsm (by rw [hroot]; omega) : Stand wB k root 0)
  have HC := Aside0.mk hcall
  have HW := Aside0.mk (And.intro hkw (And.intro hsz (And.intro hinv hroot)))
  clear hcall ht ho hsm hkw hsz hinv hroot
  unfold ptr
  go_enter Try.func56, Try.ntmps56
  go_wp2_with fail
  go_loopg [6, 7] (k.size + 2) (fun kq v6 v7 w' => ∃ (a : Nat) (on : Option Nd) (s : σ) (p : Option Addr), v6 = .int .i64 (a : Int) ∧ v7 = .pointer p ∧ Aside0 (optPtr on = .pointer p ∧ (∀ n, on = some n → Stand wB k n a ∧ k.size + 1 < kq + a + n.label.size) ∧ a ≤ k.size) ∧
    Aside0 (wayF step k kq on a s = wayF step k (k.size + 2) (some root) 0 s0) ∧ Aside0 (Inv s w' ∧ Kept wB w' ∧ wB.heap.size ≤ w'.heap.size ∧ Below wB.heap.size w w'))
  case atStart =>
    refine ⟨0, some root, s0, some ⟨root.b, 0, none⟩, rfl, rfl, ⟨rfl, fun n e => by cases e; exact ⟨HS.out, by have := HW.out.2.2.2; omega⟩, by omega⟩, ⟨rfl⟩, ⟨HW.out.2.2.1, HW.out.1, HW.out.2.1, Below.refl _ _⟩⟩
  case round =>
    obtain ⟨a, on, s, p, rfl, rfl, HO, HF, HI⟩ := hrel
    cases on with
    | none =>
      have ep : p = none := by have := HO.out.1; simpa [optPtr] using this.symm
      subst ep
      go_wp2_with fail
      refine bodyPost_end (results_none rfl _ _ _) rfl ?_
      refine ⟨rfl, ?_, HI.out.2.2.2⟩
      rw [← HF.out, wayF_none]
      exact HI.out.1
    | some n =>
      have ep : p = some ⟨n.b, 0, none⟩ := by have := HO.out.1; simpa [optPtr, ptr] using this.symm
      subst ep
      obtain ⟨hst, hq⟩ := HO.out.2.1 n rfl
      obtain ⟨kvn, hbn, _, _, _⟩ := hst.at_.parts
      have cl : wr.cell? ⟨n.b, 0, none⟩ = some (.string n.label) := by rw [blk_cell (HI.out.2.1.at hbn)]; rfl
      have hle := hst.le
      obtain ⟨a2, ea2⟩ : ∃ a2, a + n.label.size = a2 := ⟨_, rfl⟩
      have ha2 : a2 ≤ k.size := by omega
      have ha2I : (a2 : Int) ≤ (k.size : Int) := by omega
      have ew : wrap64 ((a : Int) + (n.label.size : Int)) = (a2 : Int) := by unfold wrap64; omega
      have ew2 : (a : Int) + (n.label.size : Int) = (a2 : Int) := by omega
      have q1 := Aside0.mk (HC.out s n a2 wr HI.out.2.1 HI.out.2.2.1 HI.out.1 hst.at_ ha2)
      have HST := Aside0.mk (And.intro hst (And.intro hq ea2))
      have HEW := Aside0.mk ew
      clear hst hq hbn hle ea2 ew
      unfold ptr at q1
      go_wp2_with (go_at_call 96; refine q1.out.mono ?_)
      rintro e w2 ⟨rfl, hi2, hb2⟩
      have hs2 := hb2.size
      have hk2 : Kept wB w2 := fun x hx => (hb2.block x hx).trans (HI.out.2.1 x hx)
      obtain ⟨p2, ep2⟩ := optPtr_form (downN n (k.extract a2 k.size))
      have q2 := downC w2 n (NdAt.keep hk2 n HST.out.1.at_) HST.out.1.ok (k.extract a2 k.size)
      rw [ep2] at q2
      have q3 := Aside0.mk q2
      have H2 := Aside0.mk (And.intro hi2 (And.intro hb2 (And.intro hk2 ep2)))
      clear hi2 hb2 hk2 ep2 q2 q1 hs2
      unfold ptr at q3
      go_wp2_with (go_at_call 93; refine q3.out.mono ?_)
      rintro e w3 ⟨rfl, rfl⟩
      clear q3
      go_wp2_with fail
      obtain ⟨hst, hq, ea2⟩ := HST.out
      cases hgk : gk with
      | zero => exfalso; have := hst.le; rw [hgk] at hq; omega
      | succ g1 =>
        go_roundg g1
        case measure => omega
        case rel =>
          obtain ⟨hi2, hb2, hk2, ep2⟩ := H2.out
          have hf := HF.out
          rw [hgk] at hf
          unfold wayF at hf
          rw [ea2] at hf
          refine ⟨a2, downN n (k.extract a2 k.size), step s n a2, p2, rfl, rfl, ⟨ep2, fun m em => ?_, ha2⟩, ⟨hf⟩, ⟨hi2, hk2, by have := HI.out.2.2.1; have := hb2.size; omega, HI.out.2.2.2.trans hb2⟩⟩
          obtain ⟨hm, hml⟩ := downN_some em
          have hse : (k.extract a2 k.size).size = k.size - a2 := by simp only [ByteArray.size_extract]; omega
          have hpos := hst.ok.parts.2.1 m hm
          obtain ⟨ii, hii, eii⟩ := List.getElem_of_mem hm
          refine ⟨⟨?_, hst.ok.parts.2.2.get m hm, hst.sm.parts.2.mem m hm, by omega⟩, by rw [hgk] at hq; omega⟩
          rw [← eii]
          exact hst.at_.parts.choose_spec.2.2.2.get ii hii
end Go.Proofs.Ytkaeglnnahecjaa.T
