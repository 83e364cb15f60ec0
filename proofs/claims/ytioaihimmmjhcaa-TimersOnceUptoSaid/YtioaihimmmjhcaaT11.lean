/- timers: (*Wheel).Advance at memory. -/
import Derived.Test.YtioaihimmmjhcaaT10
set_option linter.unusedVariables false
set_option linter.unusedSimpArgs false
namespace Go.Proofs.Ytioaihimmmjhcaa.T
open Go.RowKit Go.Maps Go.Proofs.YtioaihimmmjhcaaW.PrintWords

/-- what fires, and what is left -/
def advL (ts : List (Nat × Tm)) (now : Int) : List Int × List (Nat × Tm) :=
  if h : 0 < ts.length ∧ (ts.getD 0 default).2.at_ ≤ now then
    (((popL ts).getD (ts.length - 1) default).2.id :: (advL ((popL ts).take (ts.length - 1)) now).1, (advL ((popL ts).take (ts.length - 1)) now).2)
  else ([], ts)
termination_by ts.length
decreasing_by all_goals (rw [List.length_take]; omega)

theorem infoInt : (Try.prog.info? 3).map (fun i => (i.zero, i.size, i.bytes)) = some (some (.int .i64 0), 1, 8) := by kernel_rfl
def intsOf (xs : List Int) : List Value := xs.map fun x => .int .i64 x
/-- the fields of the wheel's block -/
structure Wf (w : World) (b M : Nat) (now sets most : Int) (v : Value) (ts : List (Nat × Tm)) (k : Nat) (D : DataW Unit) : Prop where
  blk : w.heap[b]? = some (WheelObj now sets most v (.map (some M)))
  line : LineIs w v ts
  map : w.ownsMap Try.prog 3 RB M k D
  off : b ∉ rowOf v ++ ts.map (·.1)
def footOf (v : Value) (ts : List (Nat × Tm)) : List Nat := rowOf v ++ ts.map (·.1)

theorem ownsRow_fr {S : List Nat} {w w' : World} {base e size n : Nat} {v : Value} {xs : List Value} (h : w.ownsRow base e size v n xs) (f : Fr S w w') (hs : ∀ g, v.ownBlock = some g → g ∉ S) : w'.ownsRow base e size v n xs := by
  rcases h with ⟨hl, ⟨hv, hn⟩ | ⟨g, cap, cur, rfl, hb, hg, h1, h2, h3, h4⟩⟩
  · exact ⟨hl, .inl ⟨hv, hn⟩⟩
  · exact ⟨hl, .inr ⟨g, cap, cur, rfl, hb, (f.block g (blk_lt hg) (hs g rfl)).trans hg, h1, h2, h3, h4⟩⟩
theorem Wf.lt {w : World} {b M k : Nat} {now sets most : Int} {v : Value} {ts : List (Nat × Tm)} {D : DataW Unit} (h : Wf w b M now sets most v ts k D) : ∀ x ∈ b :: M :: footOf v ts, x < w.heap.size := by
  intro x hx
  rcases List.mem_cons.1 hx with e | hx
  · rw [e]; exact blk_lt h.blk
  · rcases List.mem_cons.1 hx with e | hx
    · rw [e]; exact h.map.lt
    · obtain ⟨cs, t, hc⟩ := h.line.cells x hx
      exact blk_lt hc
set_option maxHeartbeats 8000000 in
set_option maxRecDepth 100000 in
theorem wadvance (w : World) (b M k : Nat) (ts : List (Nat × Tm)) (now0 now sets most : Int) (v : Value) (D : DataW Unit) (hw : Wf w b M now0 sets most v ts k D) (hz : ts.length < 3000000000000)
    (hnow : now0 ≤ now) (hid : ∀ x ∈ ts, (idL x.2.id).wf = true) :
    Calls Try.prog 9 #[.pointer (some ⟨b, 0, none⟩), .int .u64 now] w fun e w' => ∃ vo, e = .returned (.tuple #[vo, .int .i64 0]) ∧
      w'.ownsRow w.heap.size 3 1 vo (advL ts now).1.length (intsOf (advL ts now).1) ∧ ∃ v', (∃ k' D', Wf w' b M now sets most v' (advL ts now).2 k' D') ∧ (∀ x ∈ footOf v' (advL ts now).2, x ∈ footOf v ts) ∧ Fr (b :: M :: footOf v ts) w w' := by
  have c0 : w.cell? ⟨b, 0, none⟩ = some (.int .u64 now0) := by rw [Lib.cell_of_heap hw.blk]; rfl
  have f0 : w.frozen? ⟨b, 0, none⟩ = false := blk_frozen hw.blk 0
  have hlt : ¬ now < now0 := by omega
  have HW := Aside0.mk hw
  have HI := Aside0.mk hid
  clear hw hid
  go_enter Try.func9, Try.ntmps9
  go_wp2_with fail
  go_loopg [6] (ts.length + 1) (fun kq vo w' => ∃ (ts' : List (Nat × Tm)) (outs : List Int) (v' : Value) (k' : Nat) (D' : DataW Unit),
    Aside0 (ts'.length + 1 = kq ∧ ts'.length ≤ ts.length) ∧ Aside0 (w'.ownsRow w.heap.size 3 1 vo outs.length (intsOf outs)) ∧ Aside0 (outs.length + ts'.length = ts.length) ∧
    Aside0 (outs ++ (advL ts' now).1 = (advL ts now).1 ∧ (advL ts' now).2 = (advL ts now).2) ∧ Aside0 (Wf w' b M now sets most v' ts' k' D') ∧
    Aside0 ((∀ x ∈ footOf v' ts', x ∈ footOf v ts) ∧ (∀ x ∈ ts', x ∈ ts)) ∧ Aside0 (Fr (b :: M :: footOf v ts) w w'))
  case atStart =>
    have F0 : Fr [b] w (w.setCell ⟨b, 0, none⟩ (.int .u64 now)) := Fr.set w b 0 _
    have hMb : M ≠ b := ownsMap_ne HW.out.map HW.out.blk
    refine ⟨ts, [], v, k, D, ⟨rfl, Nat.le_refl _⟩, ⟨World.ownsRow_nil _ _ _ _⟩, ⟨by simp⟩, ⟨by simp, rfl⟩, ⟨⟨blk_put HW.out.blk 0 _ rfl, HW.out.line.fr F0 (fun x hx h => ?_), HW.out.map.setCell hMb _, HW.out.off⟩⟩, ⟨fun x hx => hx, fun x hx => hx⟩, ⟨F0.mono (by simp)⟩⟩
    rw [List.mem_singleton] at h
    subst h
    exact HW.out.off hx
  case round =>
    obtain ⟨ts', outs, v', k', D', HL, HO, HN, HA, HW', HS, HF⟩ := hrel
    obtain ⟨p, c, hvv⟩ : ∃ p c, v' = .slice p ts'.length c := by
      rcases HW'.out.line with ⟨rfl, rfl⟩ | ⟨L, cap, rfl, _⟩
      · exact ⟨_, _, rfl⟩
      · exact ⟨_, _, rfl⟩
    have c3 : wr.cell? ⟨b, 3, none⟩ = some (.slice p ts'.length c) := by rw [Lib.cell_of_heap HW'.out.blk, ← hvv]; rfl
    by_cases hlen : 0 < ts'.length
    · have hgo : ∃ n, ts'.length = n + 1 := ⟨ts'.length - 1, by omega⟩
      obtain ⟨n, hn⟩ := hgo
      obtain ⟨L, cap, hv', hL, hcm⟩ : ∃ L cap, v' = .slice (some ⟨L, 0, none⟩) ts'.length cap ∧ LineAt wr L cap ts' ∧ cap ≤ maxLen := by
        rcases HW'.out.line with ⟨_, h⟩ | h
        · subst h; simp at hn
        · exact h
      have d0 := hL.cell 0 hlen
      have a0 := (hL.tcell 0 hlen).1
      have e0 := get_of ts' 0 hlen
      rw [hv'] at hvv
      simp only [Value.slice.injEq] at hvv
      obtain ⟨rfl, _, rfl⟩ := hvv
      have hnn : n < 4000000000000 := by have := HL.out; omega
      rw [hn] at c3
      have HV := Aside0.mk hv'
      have HLL := Aside0.mk hL
      have HC := Aside0.mk hcm
      have HNN := Aside0.mk hn
      have hunf : Aside0 (advL ts' now = if h : 0 < ts'.length ∧ (ts'.getD 0 default).2.at_ ≤ now then
          (((popL ts').getD (ts'.length - 1) default).2.id :: (advL ((popL ts').take (ts'.length - 1)) now).1, (advL ((popL ts').take (ts'.length - 1)) now).2) else ([], ts')) := ⟨by rw [advL]⟩
      have hlen2 := Aside0.mk hlen
      rw [← e0] at d0 a0
      generalize hq : ts'.getD 0 default = q0 at *
      have hq2 := Aside0.mk hq
      clear hv' hL hcm hn hlen e0 hq
      by_cases hat : q0.2.at_ ≤ now
      · have hboff : b ∉ L :: ts'.map (·.1) := by
          intro h
          apply HW'.out.off
          rcases List.mem_cons.1 h with h | h
          · exact List.mem_append.2 (.inl (mem_rowOf.2 (by rw [HV.out, h]; rfl)))
          · exact List.mem_append.2 (.inr h)
        have hp := Aside0.mk (heapPop wr b L cap n ts' now sets most (.map (some M)) HLL.out HNN.out (by have := HL.out; omega) (by rw [← HV.out]; exact HW'.out.blk) hboff)
        clear hboff
        go_wp2_with (go_at_call 16; refine hp.out.mono ?_)
        rintro e w1 ⟨rfl, hb1, hL1, F1⟩
        have hpl : (popL ts').length = n + 1 := by rw [(popL_perm ts' hlen2.out).length_eq]; exact HNN.out
        have ex := get_of (popL ts') n (by omega)
        have k2 := (hL1.tcell n (by omega)).2.2
        have hxm : (popL ts')[n]'(by omega) ∈ ts' := (popL_perm ts' hlen2.out).mem_iff.1 (List.getElem_mem (by omega))
        rw [← ex] at k2 hxm
        obtain ⟨x, hx⟩ : ∃ x, (popL ts').getD n default = x := ⟨_, rfl⟩
        rw [hx] at k2 hxm
        rw [hx]
        have hidx := HI.out x (HS.out.2 x hxm)
        have hMn : M ∉ b :: L :: ts'.map (·.1) := by
          intro h
          rcases List.mem_cons.1 h with h | h
          · exact ownsMap_ne HW'.out.map HW'.out.blk h
          · have : M ∈ rowOf v' ++ ts'.map (·.1) := by
              rcases List.mem_cons.1 h with h | h
              · exact List.mem_append.2 (.inl (mem_rowOf.2 (by rw [HV.out, h]; rfl)))
              · exact List.mem_append.2 (.inr h)
            obtain ⟨cs, t, hc⟩ := HW'.out.line.cells M this
            exact ownsMap_ne HW'.out.map hc rfl
        have hM1 := ownsMap_heap HW'.out.map (F1.block M HW'.out.map.lt hMn)
        have c4 : w1.cell? ⟨b, 4, none⟩ = some (.map (some M)) := by rw [Lib.cell_of_heap hb1]; rfl
        have HB1 := Aside0.mk hb1
        have HL1 := Aside0.mk hL1
        have HF1 := Aside0.mk F1
        have HX := Aside0.mk (And.intro hx (And.intro hxm (And.intro hidx (And.intro hMn (And.intro hpl hM1)))))
        clear hb1 hL1 F1 hx hxm hidx hMn hM1 hpl ex hp
        go_wp2_with fail
        rw [m_assert]
        go_upon
        go_wp2_with fail
        obtain ⟨w2, hrun, hM2, ht2⟩ := HX.out.2.2.2.2.2.drew.drop law3 Try.underlying39 (keyOf_int_mk Try.underlying3 HX.out.2.2.1) 0
        go_region
        obtain ⟨hx, hxm, hidx, hMn, hpl, hM1⟩ := HX.out
        have F2 : Fr [M] w1 w2 := by
          have h1 : Fr [M] w1 w1.drew := (Fr.refl _ _).drew
          exact h1.trans (Fr.ofGrown ht2.grown (by intro y hy; simp at hy; simp [hy]))
        have hxb : x.1 ∈ ts'.map (·.1) := List.mem_map.2 ⟨x, hxm, rfl⟩
        have hxM : x.1 ≠ M := fun e => hMn (List.mem_cons_of_mem _ (List.mem_cons_of_mem _ (e ▸ hxb)))
        have k22 : w2.cell? ⟨x.1, 2, none⟩ = some (.int .i64 x.2.id) := F2.cell k2 (by simpa using hxM)
        have hfoot : ∀ y ∈ L :: ts'.map (·.1), y ∈ footOf v ts := fun y hy => HS.out.1 y (by
          unfold footOf
          rcases List.mem_cons.1 hy with h | h
          · exact List.mem_append.2 (.inl (mem_rowOf.2 (by rw [HV.out, h]; rfl)))
          · exact List.mem_append.2 (.inr h))
        have hlt0 := HW.out.lt
        have hrow : ∀ g, u6.ownBlock = some g → w.heap.size ≤ g := fun g hg => (HO.out.lt g hg).1
        have hbL := HW'.out.off
        have o1 : w1.ownsRow w.heap.size 3 1 u6 outs.length (intsOf outs) := ownsRow_fr HO.out HF1.out (fun g hg h => by
          have h1 := hrow g hg
          have h2 : g < w.heap.size := by
            rcases List.mem_cons.1 h with e | h
            · exact hlt0 g (by simp [e])
            · exact hlt0 g (List.mem_cons_of_mem _ (List.mem_cons_of_mem _ (hfoot g h)))
          omega)
        have o2 : w2.ownsRow w.heap.size 3 1 u6 outs.length (intsOf outs) := ownsRow_fr o1 F2 (fun g hg h => by
          have h1 := hrow g hg
          have h2 := hlt0 M (by simp)
          rw [List.mem_singleton] at h
          omega)
        have s1 := HF.out.size
        have s2 := HF1.out.size
        have s3 := F2.size
        obtain ⟨i0, hi, hz0, hz1, hz2⟩ := info_parts infoInt
        have o3 := Aside0.mk o2
        have HF2 := Aside0.mk F2
        have HM2 := Aside0.mk hM2
        have HZ := Aside0.mk (And.intro hxM (And.intro hfoot (And.intro hlt0 (And.intro hrow (And.intro s1 (And.intro s2 s3))))))
        have hol : outs.length < 4000000000000 := by have := HN.out; omega
        clear F2 hM2 hxM hfoot hlt0 hrow s1 s2 s3 o1 o2 hx hxm hidx hMn hpl hM1 hxb hrun ht2 hbL k2 c4 d0 a0
        go_wp2_with (at_builtin; refine wpList_append_own _ rfl _ _ 29 rfl w.heap.size 3 i0 (.int .i64 0) 1 8 Try.underlying29 hi hz0 hz1 hz2 rfl (by decide) _ _ _ rfl (o3.out.alloc _) ⟨w2.heap.size, 0, none⟩ 1 1 [.int .i64 x.2.id] rfl rfl ?c1 ?c2 ?c3 ?c4 ?c5 ?_)
        case c1 =>
          intro j u hj
          match j, hj with
          | 0, hj => simp at hj; subst hj; simp [Addr.add]
        case c2 => intro u hu; simp at hu; subst hu; rfl
        case c3 => unfold maxLen; omega
        case c4 => omega
        case c5 => have := HZ.out.2.2.2.2; simp only [World.size_alloc]; omega
        intro vo' w3 ho3 hg3 _
        obtain ⟨hx, hxm, hidx, hMn, hpl, hM1⟩ := HX.out
        obtain ⟨hxM, hfoot, hlt0, hrow, s1, s2, s3⟩ := HZ.out
        have F3 : Fr (rowOf u6) w2 w3 := ((Fr.alloc w2 (.cells #[.int .i64 x.2.id] 3)).mono (by simp)).trans (Fr.ofGrown hg3 (fun y hy => mem_rowOf.2 hy))
        have hmain : ∀ y ∈ b :: M :: footOf v ts, y ∉ rowOf u6 := fun y hy h => by
          have h1 := hrow y (mem_rowOf.1 h)
          have h2 := hlt0 y hy
          omega
        have hb3 : w3.heap[b]? = some (WheelObj now sets most (.slice (some ⟨L, 0, none⟩) n cap) (.map (some M))) := by
          have hMb : b ≠ M := fun e => hMn (by simp [e])
          rw [F3.block b (by have := hlt0 b (by simp); omega) (hmain b (by simp)), HF2.out.block b (by have := hlt0 b (by simp); omega) (by simpa using hMb)]
          exact HB1.out
        have hmem : ∀ y ∈ L :: (popL ts').map (·.1), y ∈ L :: ts'.map (·.1) := by
          intro y hy
          rcases List.mem_cons.1 hy with h | h
          · exact List.mem_cons.2 (.inl h)
          · exact List.mem_cons.2 (.inr (((popL_perm ts' hlen2.out).map (·.1)).mem_iff.1 h))
        have hL3 : LineAt w3 L cap ((popL ts').take n) := ((HL1.out.fr HF2.out (fun y hy h => by
          rw [List.mem_singleton] at h
          exact hMn (List.mem_cons_of_mem _ (h ▸ hmem y hy)))).fr F3 (fun y hy => hmain y (List.mem_cons_of_mem _ (List.mem_cons_of_mem _ (hfoot y (hmem y hy)))))).take n
        have htl : ((popL ts').take n).length = n := by rw [List.length_take]; omega
        have hM3 := ownsMap_heap HM2.out (F3.block M HM2.out.lt (hmain M (by simp)))
        have hfoot2 : ∀ y ∈ footOf (.slice (some ⟨L, 0, none⟩) n cap) ((popL ts').take n), y ∈ L :: ts'.map (·.1) := by
          intro y hy
          rcases List.mem_append.1 hy with h | h
          · have := mem_rowOf.1 h
            simp [Value.ownBlock] at this
            simp [this]
          · rw [List.map_take] at h
            exact hmem y (List.mem_cons_of_mem _ (List.mem_of_mem_take h))
        have hW3 : Wf w3 b M now sets most (.slice (some ⟨L, 0, none⟩) n cap) ((popL ts').take n) k' (D'.del (idL x.2.id)) :=
          ⟨hb3, .inr ⟨L, cap, by rw [htl], hL3, HC.out⟩, hM3, fun h => HW'.out.off (by
            rcases List.mem_cons.1 (hfoot2 b h) with h | h
            · exact List.mem_append.2 (.inl (mem_rowOf.2 (by rw [HV.out, h]; rfl)))
            · exact List.mem_append.2 (.inr h))⟩
        have hadv : advL ts' now = (x.2.id :: (advL ((popL ts').take n) now).1, (advL ((popL ts').take n) now).2) := by
          rw [hunf.out, dif_pos ⟨hlen2.out, hat⟩, HNN.out]
          simp only [Nat.add_sub_cancel]
          rw [hx]
        have FF : Fr (b :: M :: footOf v ts) w w3 := by
          refine (HF.out.trans ((HF1.out.mono (fun y hy => ?_)).trans (HF2.out.mono (by simp)))).over F3 (fun y hy => .inr (hrow y (mem_rowOf.1 hy)))
          rcases List.mem_cons.1 hy with h | h
          · simp [h]
          · exact List.mem_cons_of_mem _ (List.mem_cons_of_mem _ (hfoot y h))
        have REL := Aside0.mk (And.intro hW3 (And.intro hadv (And.intro FF (And.intro htl (And.intro ho3 (And.intro hxm (fun y hy => hfoot y (hfoot2 y hy))))))))
        clear F3 hmain hb3 hmem hL3 htl hM3 hfoot2 hW3 hadv FF hg3 ho3 hx hxm hidx hMn hpl hM1 hxM hfoot hlt0 hrow s1 s2 s3 k22
        go_wp2_with fail
        go_roundg (n + 1)
        case measure => have := HL.out; have := HNN.out; omega
        case rel =>
          obtain ⟨hW3, hadv, FF, htl, ho3, hxm, hft⟩ := REL.out
          refine ⟨(popL ts').take n, outs ++ [x.2.id], _, k', _, ⟨by rw [htl], by rw [htl]; have := HL.out; have := HNN.out; omega⟩, ⟨?_⟩, ⟨by rw [htl, List.length_append]; have := HN.out; have := HNN.out; simp; omega⟩, ⟨?_⟩, ⟨hW3⟩, ⟨hft, fun y hy => HS.out.2 y ((popL_perm ts' hlen2.out).mem_iff.1 (List.mem_of_mem_take hy))⟩, ⟨FF⟩⟩
          · have e1 : (outs ++ [x.2.id]).length = outs.length + 1 := by simp
            have e2 : intsOf (outs ++ [x.2.id]) = intsOf outs ++ [.int .i64 x.2.id] := by simp [intsOf]
            rw [e1, e2]
            exact ho3
          · obtain ⟨h1, h2⟩ := HA.out
            rw [hadv] at h1 h2
            exact ⟨by rw [List.append_assoc]; exact h1, h2⟩
      · go_wp2_with fail
        go_ret2
        have e : advL ts' now = ([], ts') := by rw [hunf.out, dif_neg (fun h => by have := h.2; omega)]
        obtain ⟨h1, h2⟩ := HA.out
        rw [e] at h1 h2
        simp only [List.append_nil] at h1
        rw [← h1, ← h2]
        exact ⟨_, rfl, HO.out, v', ⟨k', D', HW'.out⟩, HS.out.1, HF.out⟩
    · have h0 : ts'.length = 0 := by omega
      have hts : ts' = [] := List.length_eq_zero_iff.1 h0
      rw [h0] at c3
      have HV := Aside0.mk hvv
      clear hvv
      go_wp2_with fail
      go_ret2
      have e : advL ts' now = ([], ts') := by rw [advL, dif_neg (fun h => hlen h.1)]
      obtain ⟨h1, h2⟩ := HA.out
      rw [e] at h1 h2
      simp only [List.append_nil] at h1
      rw [← h1, ← h2]
      exact ⟨_, rfl, HO.out, v', ⟨k', D', HW'.out⟩, HS.out.1, HF.out⟩
end Go.Proofs.Ytioaihimmmjhcaa.T
