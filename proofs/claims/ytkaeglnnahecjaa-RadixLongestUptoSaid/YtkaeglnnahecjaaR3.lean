/- radix: one step down. -/
import Derived.Test.YtkaeglnnahecjaaR2
set_option linter.unusedVariables false
set_option linter.unusedSimpArgs false
namespace Go.Proofs.Ytkaeglnnahecjaa.T
open Go.RowKit Go.Proofs.YtkaeglnnahecjaaW.PrintWords

theorem rise_ge : ∀ (l : List Nat), l.Pairwise (· < ·) → ∀ i (h : i < l.length), i ≤ l[i] := by
  intro l hl i
  induction i with
  | zero => intro h; exact Nat.zero_le _
  | succ i ih =>
    intro h
    have h1 := ih (by omega)
    have h2 := List.pairwise_iff_getElem.1 hl i (i + 1) (by omega) h (by omega)
    omega
theorem rise_len (l : List Nat) (N : Nat) (hl : l.Pairwise (· < ·)) (hN : ∀ x ∈ l, x < N) : l.length ≤ N := by
  by_cases h : l.length = 0
  · omega
  · have h1 := rise_ge l hl (l.length - 1) (by omega)
    have h2 := hN _ (List.getElem_mem (show l.length - 1 < l.length by omega))
    omega
theorem fb_lt (n : Nd) : fb n < 256 := UInt8.toNat_lt _
theorem Ok.parts {n : Nd} (h : Ok n) : (n.kids.map fb).Pairwise (· < ·) ∧ (∀ k ∈ n.kids, 0 < k.label.size) ∧ Oks n.kids := by
  cases n with
  | mk b label leaf kids mark => unfold Ok at h; exact h
theorem Ok.few {n : Nd} (h : Ok n) : n.kids.length ≤ 256 := by
  have h1 := rise_len _ 256 h.parts.1 (fun x hx => by obtain ⟨k, _, rfl⟩ := List.mem_map.1 hx; exact fb_lt k)
  simpa using h1
theorem full_of (s : ByteArray) (h : 0 < s.size) : s.toList.isEmpty = false := by
  rw [ByteArray.toList_eq]
  cases e : s.data.toList with
  | nil =>
    have h2 : s.data.toList.length = 0 := by rw [e]; rfl
    rw [Array.length_toList] at h2
    have h3 : s.data.size = s.size := rfl
    omega
  | cons x xs => rfl
set_option maxHeartbeats 4000000 in
set_option maxRecDepth 100000 in
theorem downC (w : World) (n : Nd) (hn : NdAt w n) (ho : Ok n) (rest : ByteArray) : Calls Try.prog 93 #[ptr n.b, .string rest] w fun e w' => e = .returned (optPtr (downN n rest)) ∧ w' = w := by
  obtain ⟨kv, hb, hr, hl, hk⟩ := hn.parts
  have hfew := ho.few
  obtain ⟨hs, hp, hoks⟩ := ho.parts
  by_cases h0 : rest.size = 0
  · have e0 : rest = ⟨#[]⟩ := by
      apply ByteArray.ext
      apply Array.eq_empty_of_size_eq_zero
      exact h0
    have ed : downN n rest = none := by unfold downN; rw [if_pos h0]
    rw [ed]
    subst e0
    clear hb hr hl hk hs hp hoks ed h0
    unfold ptr
    go_enter Try.func93, Try.ntmps93
    go_wp2_with fail
    go_ret
    exact ⟨rfl, rfl⟩
  · have hpos : 0 < rest.size := by omega
    have hne := full_of rest hpos
    have q0 := kidOf w n.b n.label _ kv _ n.kids (fbS rest) hb hr hk hs hp (fbS_lt rest) (by omega)
    have ex : ((fbS rest : Nat) : Int) = (rest[0].toNat : Int) := by unfold fbS; rw [← byte0 rest hpos]
    rw [ex] at q0
    have q1 := Aside0.mk q0
    have c2 : w.cell? ⟨n.b, 2, none⟩ = some kv := by rw [blk_cell hb]; rfl
    have hfewI : pos (n.kids.map fb) (fbS rest) < 1000 := by have := pos_le (n.kids.map fb) (fbS rest); rw [List.length_map] at this; omega
    have HB := Aside0.mk (And.intro hr hk)
    have HN := Aside0.mk (And.intro h0 hp)
    clear hb hl hk hs hp hoks q0 ex h0
    cases hh : hit (n.kids.map fb) (fbS rest) with
    | false =>
      have ed : downN n rest = none := by unfold downN kidN; rw [if_neg HN.out.1, hh]; rfl
      rw [ed]
      rw [hh] at q1
      have hh' := Aside0.mk hh
      clear hh ed hr
      unfold ptr at q1 ⊢
      go_enter Try.func93, Try.ntmps93
      go_wp2_with (go_at_call 98; refine q1.out.mono ?_)
      rintro e w' ⟨rfl, rfl⟩
      go_wp2_with fail
      go_ret
      exact ⟨rfl, rfl⟩
    | true =>
      have hlt := hit_lt hh
      rw [List.length_map] at hlt
      obtain ⟨i, ei⟩ : ∃ i, pos (n.kids.map fb) (fbS rest) = i := ⟨_, rfl⟩
      rw [hh] at q1
      rw [ei] at q1 hlt
      obtain ⟨A, c, rfl, hA⟩ := hr.open
      have hlen : (ptrs n.kids).length = n.kids.length := by simp [ptrs]
      obtain ⟨ad, ea, ka⟩ := hA i (by rw [hlen]; exact hlt)
      have ka' : w.cell? (ad.add i) = some (ptr n.kids[i].b) := by simpa [ptrs] using ka
      obtain ⟨kvk, hbk, _, _, _⟩ := (HB.out.2.get i hlt).parts
      have ck : w.cell? ⟨n.kids[i].b, 0, none⟩ = some (.string n.kids[i].label) := by rw [blk_cell hbk]; rfl
      subst ea
      rw [hlen] at c2
      have ed : downN n rest = if Lib.hasPrefix rest.data.toList n.kids[i].label.data.toList then some n.kids[i] else none := by
        unfold downN kidN
        rw [if_neg HN.out.1, hh, if_pos rfl, ei, List.getElem?_eq_getElem hlt]
        rfl
      rw [ed]
      obtain ⟨k, ek⟩ : ∃ k, n.kids[i] = k := ⟨_, rfl⟩
      rw [ek] at ka' ck ⊢
      have HE := Aside0.mk (And.intro hh ei)
      obtain ⟨len, elen⟩ : ∃ len, n.kids.length = len := ⟨_, rfl⟩
      rw [elen] at c2 hlt
      clear hh ei ed ek ka hA hbk hlen hfewI hfew elen
      unfold ptr at q1 ka' ⊢
      have q2 := Aside0.mk (Try.strings_HasPrefix rest k.label w)
      have hi1000 : i < len := hlt
      obtain ⟨r, er⟩ : ∃ r, optPtr (if Lib.hasPrefix rest.data.toList k.label.data.toList then some k else none) = r := ⟨_, rfl⟩
      rw [er]
      have HR := Aside0.mk er
      clear er
      go_enter Try.func93, Try.ntmps93
      go_wp2_with (go_at_call 98; refine q1.out.mono ?_)
      rintro e w' ⟨rfl, rfl⟩
      go_wp2_with (go_at_call 118; refine q2.out.mono ?_)
      rintro e w' ⟨rfl, rfl⟩
      cases hpx : Lib.hasPrefix rest.data.toList k.label.data.toList with
      | false =>
        have hr := HR.out
        rw [hpx] at hr
        have HH := Aside0.mk hr
        clear hr
        go_wp2_with fail
        go_ret
        exact ⟨congrArg Ending.returned HH.out, rfl⟩
      | true =>
        have hr := HR.out
        rw [hpx] at hr
        have HH := Aside0.mk hr
        clear hr
        go_wp2_with fail
        go_ret
        exact ⟨congrArg Ending.returned HH.out, rfl⟩
end Go.Proofs.Ytkaeglnnahecjaa.T
