/- joined: R20 R21 R22 R23 R24 -/
import Derived.Test.YtkaeglnnahecjaaJf
import Derived.Laws.Concat
import Derived.Shelf.SlicesE.Delete
import Derived.Lib.OwnBridge
/- radix: shaped. -/
set_option linter.unusedVariables false
set_option linter.unusedSimpArgs false
namespace Go.Proofs.Ytkaeglnnahecjaa.T
open Go.RowKit Go.Lib Go.Proofs Go.Proofs.YtkaeglnnahecjaaW.PrintWords

theorem NdAt.marked {w : World} {n : Nd} (h : NdAt w n) : ∃ mb, n.mark = ptr mb := by
  cases n; unfold NdAt at h; exact h.2.2.2
theorem isSome_of {α : Type} {o : Option α} (h : o.isSome = true) : ∃ x, o = some x := Option.isSome_iff_exists.1 h
set_option maxHeartbeats 4000000 in
set_option maxRecDepth 100000 in
theorem shaped_self (w : World) (n : Nd) (hn : NdAt w n) (ho : Ok n) (h : n.leaf.isSome = true ∨ 1 < n.kids.length) :
    Calls Try.prog 99 #[ptr n.b] w fun e w' => e = .returned (ptr n.b) ∧ w' = w := by
  obtain ⟨kv, hb, hr, hl, hk⟩ := hn.parts
  have hfew := ho.few
  cases e : n.leaf with
  | some l =>
    have c1 : w.cell? ⟨n.b, 1, none⟩ = some (.pointer (some ⟨l.b, 0, none⟩)) := by rw [blk_cell hb, e]; rfl
    clear hb hr hl hk hn ho h e
    unfold ptr
    go_enter Try.func99, Try.ntmps99
    go_wp2_with fail
    go_ret
    exact ⟨rfl, rfl⟩
  | none =>
    have hlen : 1 < n.kids.length := h.resolve_left (by rw [e]; simp)
    have c1 : w.cell? ⟨n.b, 1, none⟩ = some (.pointer none) := by rw [blk_cell hb, e]; rfl
    obtain ⟨A, c, rfl, _⟩ := hr.open
    have elen : (ptrs n.kids).length = n.kids.length := by simp [ptrs]
    rw [elen] at hb
    have c2 : w.cell? ⟨n.b, 2, none⟩ = some (.slice A n.kids.length c) := by rw [blk_cell hb]; rfl
    obtain ⟨len, hlen'⟩ : ∃ len, n.kids.length = len := ⟨_, rfl⟩
    rw [hlen'] at c2 hlen
    have hI : (1 : Int) < (len : Int) := by omega
    clear hb hr hl hk hn ho h e elen hfew hlen'
    unfold ptr
    go_enter Try.func99, Try.ntmps99
    go_wp2_with fail
    go_ret
    exact ⟨rfl, rfl⟩
set_option maxHeartbeats 4000000 in
set_option maxRecDepth 100000 in
theorem shaped_gone (w : World) (n : Nd) (hn : NdAt w n) (h1 : n.leaf = none) (h2 : n.kids = []) :
    Calls Try.prog 99 #[ptr n.b] w fun e w' => e = .returned (.pointer none) ∧ w' = w := by
  obtain ⟨kv, hb, hr, hl, hk⟩ := hn.parts
  have c1 : w.cell? ⟨n.b, 1, none⟩ = some (.pointer none) := by rw [blk_cell hb, h1]; rfl
  obtain ⟨A, c, rfl, _⟩ := hr.open
  have elen : (ptrs n.kids).length = 0 := by simp [ptrs, h2]
  rw [elen] at hb
  have c2 : w.cell? ⟨n.b, 2, none⟩ = some (.slice A 0 c) := by rw [blk_cell hb]; rfl
  clear hb hr hl hk hn h1 h2 elen
  unfold ptr
  go_enter Try.func99, Try.ntmps99
  go_wp2_with fail
  go_ret
  exact ⟨rfl, rfl⟩
set_option maxHeartbeats 4000000 in
set_option maxRecDepth 100000 in
theorem shaped_one (wB w : World) (hkB : Kept wB w) (n k : Nd) (hnB : NdAt wB n) (h1 : n.leaf = none) (h2 : n.kids = [k]) (hs : n.label.size + k.label.size < 4000000000000) :
    Calls Try.prog 99 #[ptr n.b] w fun e w' => e = .returned (ptr w.heap.size) ∧ (∀ W, Kept wB W → (∀ x, w.heap.size ≤ x → x < w'.heap.size → W.heap[x]? = w'.heap[x]?) → NdAt W (joinN n k w.heap.size)) ∧ w'.heap.size = w.heap.size + 1 ∧ Below w.heap.size w w' := by
  obtain ⟨kv, hb0, hr0, hl, hk⟩ := hnB.parts
  have hb := hkB.at hb0
  have hr := hr0.keep hkB
  have c0 : w.cell? ⟨n.b, 0, none⟩ = some (.string n.label) := by rw [blk_cell hb]; rfl
  have c1 : w.cell? ⟨n.b, 1, none⟩ = some (.pointer none) := by rw [blk_cell hb, h1]; rfl
  obtain ⟨A, c, rfl, hrc⟩ := hr.open
  have elen : (ptrs n.kids).length = 1 := by simp [ptrs, h2]
  obtain ⟨ad, rfl, hca⟩ := hrc 0 (by omega)
  have ep : (ptrs n.kids)[0] = ptr k.b := by simp [ptrs, h2]
  rw [ep] at hca
  rw [elen] at hb
  have c2 : w.cell? ⟨n.b, 2, none⟩ = some (.slice (some ad) 1 c) := by rw [blk_cell hb]; rfl
  have hkn : NdAt wB k := by have := hk.get 0 (by rw [h2]; simp); simpa [h2] using this
  obtain ⟨kv2, hb2', hr2, hl2, hk2⟩ := hkn.parts
  have hb2 := hkB.at hb2'
  have d0 : w.cell? ⟨k.b, 0, none⟩ = some (.string k.label) := by rw [blk_cell hb2]; rfl
  obtain ⟨lp, elp⟩ := leafPtr_form k.leaf
  have d1 : w.cell? ⟨k.b, 1, none⟩ = some (.pointer lp) := by rw [blk_cell hb2, elp]; rfl
  obtain ⟨mb, emb⟩ := hkn.marked
  have d3 : w.cell? ⟨k.b, 3, none⟩ = some (.pointer (some ⟨mb, 0, none⟩)) := by rw [blk_cell hb2, emb]; rfl
  have d2 : w.cell? ⟨k.b, 2, none⟩ = some kv2 := by rw [blk_cell hb2]; rfl
  have ca0 : w.cell? ad = some (.pointer (some ⟨k.b, 0, none⟩)) := hca
  have H := Aside0.mk (And.intro elp (And.intro emb (And.intro hr2 (And.intro hl2 hk2))))
  have HS := Aside0.mk (And.intro hs hkB)
  obtain ⟨A2, cc2, rfl, _⟩ := hr2.open
  have hz1 : n.label.size + k.label.size ≤ 9223372036854775807 := by omega
  have hadd := fun w1 : World => run_string_add_sum (P := Try.prog) w1 n.label k.label hz1
  clear hz1
  clear hb hr hl hk hnB h1 h2 elen hrc ep hca hkn hb2 hr2 hl2 hk2 elp emb hs hb0 hr0 hb2' hkB
  unfold ptr
  go_enter Try.func99, Try.ntmps99
  go_wp2_with fail
  go_region_held3 (fun w' => w'.cell? ⟨n.b, 0, none⟩ = some (.string n.label) ∧ w'.cell? ⟨k.b, 0, none⟩ = some (.string k.label) ∧ w'.cell? ⟨k.b, 1, none⟩ = some (.pointer lp) ∧ w'.cell? ⟨k.b, 2, none⟩ = some (.slice A2 (ptrs k.kids).length cc2) ∧ w'.cell? ⟨k.b, 3, none⟩ = some (.pointer (some ⟨mb, 0, none⟩)))
    (first | exact ⟨c0, d0, d1, d2, d3⟩ | exact ⟨cellA c0, cellA d0, cellA d1, cellA d2, cellA d3⟩)
    (fail)
  go_wp2_with fail
  go_ret
  obtain ⟨elp, emb, hr2, hl2, hk2⟩ := H.out
  have B := (Below.refl w.heap.size w).alloc (Nat.le_refl _) (.cells #[.string (n.label ++ k.label), .pointer lp, .slice A2 (ptrs k.kids).length cc2, .pointer (some ⟨mb, 0, none⟩)] 125)
  have hsz : (w.alloc (.cells #[.string (n.label ++ k.label), .pointer lp, .slice A2 (ptrs k.kids).length cc2, .pointer (some ⟨mb, 0, none⟩)] 125)).drew.heap.size = w.heap.size + 1 := by
    show (w.alloc _).heap.size = _
    rw [World.size_alloc]
  refine ⟨rfl, fun W hW hA => ?_, hsz, ⟨B.os, B.tape, B.output, B.size, B.block⟩⟩
  refine NdAt.mk (kv := .slice A2 (ptrs k.kids).length cc2) ?_ (hr2.keep hW) (hl2.keep hW) (NdsAt.keep hW _ hk2) ⟨mb, emb⟩
  rw [elp, emb, hA w.heap.size (Nat.le_refl _) (by omega)]
  exact heap_alloc_new w _
theorem shaped_any (n : Nd) (c : Nat) : (∃ k, n.kids = [k] ∧ shapedN n c = some (joinN n k c)) ∨ ∀ x, shapedN n x = shapedN n c := by
  rcases shaped_cases n c with ⟨e, h⟩ | ⟨hl, hk, e⟩ | ⟨k, hl, hk, e⟩
  · refine .inr fun x => ?_
    rw [e]; unfold shapedN; rw [if_pos h]
  · refine .inr fun x => ?_
    rw [e]; unfold shapedN; rw [hl, hk]; rfl
  · exact .inl ⟨k, hk, e⟩
/-- shaped, whole -/
theorem shapedC (wB w : World) (hkB : Kept wB w) (n : Nd) (hnB : NdAt wB n) (ho : Ok n) (hf : Fits n 3999999999999) :
    Calls Try.prog 99 #[ptr n.b] w fun e w' => e = .returned (optPtr (shapedN n w.heap.size)) ∧ (∀ W, Kept wB W → (∀ x, w.heap.size ≤ x → x < w'.heap.size → W.heap[x]? = w'.heap[x]?) → ∀ s, shapedN n w.heap.size = some s → NdAt W s) ∧
      ((∃ k, n.kids = [k] ∧ shapedN n w.heap.size = some (joinN n k w.heap.size)) → w.heap.size < w'.heap.size) ∧ Below w.heap.size w w' := by
  have hn := NdAt.keep hkB n hnB
  rcases shaped_cases n w.heap.size with ⟨e, h⟩ | ⟨hl, hk, e⟩ | ⟨k, hl, hk, e⟩
  · rw [e]
    refine (shaped_self w n hn ho h).mono ?_
    rintro e w' ⟨rfl, rfl⟩
    refine ⟨rfl, fun W hW _ s e => (by cases e; exact NdAt.keep hW n hnB), ?_, Below.refl _ _⟩
    rintro ⟨k, hk, e⟩
    obtain ⟨kv, hb, _⟩ := hn.parts
    have hlt := (Array.getElem?_eq_some_iff.1 hb).1
    have := congrArg (Option.map Nd.b) e
    simp [joinN, Nd.b] at this
    cases n with
    | mk b _ _ _ _ => simp [Nd.b] at this hlt; omega
  · rw [e]
    refine (shaped_gone w n hn hl hk).mono ?_
    rintro e w' ⟨rfl, rfl⟩
    exact ⟨rfl, fun W _ _ s e => (by cases e), fun ⟨k, _, e⟩ => (by cases e), Below.refl _ _⟩
  · rw [e]
    have h2 := hf.parts
    have h3 := (h2.2.mem k (by rw [hk]; simp)).parts
    refine (shaped_one wB w hkB n k hnB hl hk (by omega)).mono ?_
    rintro e w' ⟨rfl, h4, h5, h6⟩
    exact ⟨rfl, fun W hW hA s e => (by cases e; exact h4 W hW hA), fun _ => by omega, h6⟩
end Go.Proofs.Ytkaeglnnahecjaa.T
/- radix: slices.Delete over pointers to nodes. -/
set_option linter.unusedVariables false
set_option linter.unusedSimpArgs false
namespace Go.Proofs.Ytkaeglnnahecjaa.T
open Go.Shelf
def del_ren : Go.Shelf.Ren := ⟨fun | 45 => 100 | n => n, fun | 22 => 123 | 23 => 58 | n => n, fun | n => n⟩
theorem delLays : Go.Proofs.SlLaysE.n45 Try.prog del_ren := {
  mixed := by kernel_rfl
  f45 := ⟨Try.f100.name, by decide, Try.func100.trans (congrArg some (by kernel_rfl))⟩
  t0 := Try.underlying0
  a0 := Try.isAgg0
  z0 := Try.sizeOf0
  v0 := Try.zeroValue0
  t3 := Try.underlying3
  a3 := Try.isAgg3
  z3 := Try.sizeOf3
  v3 := Try.zeroValue3
  t4 := Try.underlying4
  a4 := Try.isAgg4
  z4 := Try.sizeOf4
  v4 := Try.zeroValue4
  t22 := Try.underlying123
  a22 := Try.isAgg123
  z22 := Try.sizeOf123
  v22 := Try.zeroValue123
  a23 := Try.isAgg58
  z23 := Try.sizeOf58 }
open Go.RowKit Go.Lib Go.Proofs Go.Proofs.YtkaeglnnahecjaaW.PrintWords
def spot (k : Nd) : Option Addr := some ⟨k.b, 0, none⟩
theorem ptrs_spot (ks : List Nd) : ptrs ks = (ks.map spot).map Value.pointer := by simp [ptrs, spot, ptr]
theorem delRow (w : World) (base g n cap i : Nat) (ks : List Nd) (hown : w.ownsRow base 58 1 (.slice (some ⟨g, 0, none⟩) n cap) n (ptrs ks)) (hi : i < n) :
    Calls Try.prog 100 #[.slice (some ⟨g, 0, none⟩) n cap, .int .i64 i, .int .i64 ((i : Int) + 1)] w fun e w' => e = .returned (.slice (some ⟨g, 0, none⟩) (n - 1) cap) ∧ w'.ownsRow base 58 1 (.slice (some ⟨g, 0, none⟩) (n - 1) cap) (n - 1) (ptrs (ks.eraseIdx i)) ∧ w.grownBy w' (some g) ∧ base ≤ g := by
  have hkl : ks.length = n := by have := hown.1; simpa [ptrs] using this
  rw [ptrs_spot] at hown
  obtain ⟨g', cap', e1, hb, hlt, hnc, hcm, hzl, hH⟩ := Go.Lib.holds_of_ownsRow (enc := Value.pointer) hown (by simp)
  injection e1 with e1 _ e3
  injection e1 with e1
  injection e1 with e1
  subst e1; subst e3
  obtain ⟨i0, hi0, h0, h1, h2⟩ := info_parts infoP
  have hsz : (ks.map spot).toArray.size = n := by simp [hkl]
  have q := AnyE.slices_Delete delLays Value.pointer (fun _ => rfl) none (show ∀ w, (zeroValue 58).run Try.prog w = .ok (.pointer none) w from Try.zeroValue58) i0 hi0 h1 g 0 cap i (i + 1) (ks.map spot).toArray w hH (by rw [hsz]; exact hnc) (by unfold maxLen at hcm; exact hcm) (by omega) (by rw [hsz]; omega)
  rw [hsz, show i + 1 - i = 1 by omega] at q
  refine Calls.mono (show Calls Try.prog 100 #[.slice (some ⟨g, 0, none⟩) n cap, .int .i64 i, .int .i64 ((i : Int) + 1)] w _ from q) ?_
  rintro e w' ⟨rfl, m, rfl⟩
  have hl2 : ((ks.map spot).take i ++ (ks.map spot).drop (i + 1) ++ List.replicate 1 (none : Option Addr)).length = n := by
    simp only [List.length_append, List.length_take, List.length_drop, List.length_map, List.length_replicate]
    omega
  have ho := Go.Lib.ownsRow_putRow (q := m) (k := n - 1) hown hl2 (by omega)
  refine ⟨rfl, ?_, ⟨rfl, rfl, rfl, ?_, fun k hk hn => ?_⟩, hb⟩
  · have e2 : (((ks.map spot).take i ++ (ks.map spot).drop (i + 1) ++ List.replicate 1 (none : Option Addr)).take (n - 1)).map Value.pointer = ptrs (ks.eraseIdx i) := by
      rw [List.take_left' (by simp only [List.length_append, List.length_take, List.length_drop, List.length_map]; omega), ptrs_spot, List.eraseIdx_eq_take_drop_succ]
      simp
    rw [← e2]
    exact ho
  · simp [Go.Sort.putRow, Go.Sort.mapBlock, Go.Sort.ahead]
  · have : k ≠ g := fun e => hn (by rw [e])
    simp [Go.Sort.putRow, Go.Sort.mapBlock, Go.Sort.ahead, Array.getElem?_modify, show g ≠ k by omega]
end Go.Proofs.Ytkaeglnnahecjaa.T
/- radix: remove at memory. -/
set_option linter.unusedVariables false
set_option linter.unusedSimpArgs false
namespace Go.Proofs.Ytkaeglnnahecjaa.T
open Go.RowKit Go.Lib Go.Proofs Go.Proofs.YtkaeglnnahecjaaW.PrintWords

theorem find_rest0 {n : Nd} {rest : ByteArray} (h : rest.size = 0) : findT n (L rest) = n.leaf := by
  have e : L rest = [] := List.length_eq_zero_iff.1 (by rw [L_len]; omega)
  rw [e, findT_nil]
/-- one step down: none, or a kid of which the rest holds -/
theorem down_cases {n : Nd} (ho : Ok n) {rest : ByteArray} (h0 : rest.size ≠ 0) :
    (downN n rest = none ∧ findT n (L rest) = none) ∨ ∃ k, downN n rest = some k ∧ k ∈ n.kids ∧ 0 < k.label.size ∧ k.label.size ≤ rest.size ∧ kidN n rest = some k ∧ findT n (L rest) = findT k (L (rest.extract k.label.size rest.size)) := by
  have hne : L rest ≠ [] := fun e => h0 (by rw [← L_len, e]; rfl)
  have hq := kidN_eq n ho rest
  have hdn := downN_eq n ho rest h0
  rw [findT_eq _ _ hne]
  cases e : kidT n.kids (hd (L rest)) with
  | none => rw [e] at hdn; exact .inl ⟨hdn, rfl⟩
  | some k =>
    rw [e] at hdn hq
    simp only [Option.bind_some] at hdn ⊢
    have hkm : k ∈ n.kids := (kidT_some e).1
    have hpos := ho.parts.2.1 k hkm
    unfold below
    by_cases hp : L k.label <+: L rest
    · rw [if_pos hp] at hdn
      rw [if_pos ⟨hpos, hp⟩]
      have hle := hp.length_le
      rw [L_len, L_len] at hle
      exact .inr ⟨k, hdn, hkm, hpos, hle, hq, by rw [L_tail]⟩
    · rw [if_neg hp] at hdn
      rw [if_neg (fun h => hp h.2)]
      exact .inl ⟨hdn, rfl⟩
set_option maxHeartbeats 4000000 in
set_option maxRecDepth 100000 in
theorem remove_none : ∀ (N : Nat) (rest : ByteArray), rest.size ≤ N → rest.size < 4000000000000 → ∀ (n : Nd) (w : World), NdAt w n → Ok n → findT n (L rest) = none →
    Calls Try.prog 68 #[ptr n.b, .string rest] w fun e w' => e = .returned (.tuple #[ptr n.b, .pointer none]) ∧ w' = w := by
  have empty : ∀ (rest : ByteArray) (n : Nd) (w : World), NdAt w n → rest.size = 0 → findT n (L rest) = none → Calls Try.prog 68 #[ptr n.b, .string rest] w fun e w' => e = .returned (.tuple #[ptr n.b, .pointer none]) ∧ w' = w := by
    intro rest n w hn h0 hf
    rw [find_rest0 h0] at hf
    obtain ⟨kv, hb, hr, hl, hk⟩ := hn.parts
    have c1 : w.cell? ⟨n.b, 1, none⟩ = some (.pointer none) := by rw [blk_cell hb, hf]; rfl
    have e0 := empty_of rest h0
    subst e0
    clear hn hb hr hl hk hf h0
    unfold ptr
    go_enter Try.func68, Try.ntmps68
    go_wp2_with fail
    go_ret2
    exact ⟨rfl, rfl⟩
  intro N
  induction N with
  | zero => intro rest hN hbg n w hn ho hf; exact empty rest n w hn (by omega) hf
  | succ N ih =>
    intro rest hN hbg n w hn ho hf
    by_cases h0 : rest.size = 0
    · exact empty rest n w hn h0 hf
    · have hne := full_of rest (by omega)
      have q1 := Aside0.mk (downC w n hn ho rest)
      rcases down_cases ho h0 with ⟨hd, _⟩ | ⟨k, hd, hkm, hpos, hle, _, hfk⟩
      · rw [hd] at q1
        clear hn ho hf hd ih empty
        unfold optPtr at q1
        unfold ptr at q1 ⊢
        go_enter Try.func68, Try.ntmps68
        go_wp2_with (go_at_call 93; refine q1.out.mono ?_; rintro e w1 ⟨rfl, rfl⟩)
        go_ret2
        exact ⟨rfl, rfl⟩
      · rw [hd] at q1
        rw [hfk] at hf
        obtain ⟨ii, hii, eii⟩ := List.getElem_of_mem hkm
        have hkn : NdAt w k := by rw [← eii]; exact hn.parts.choose_spec.2.2.2.get ii hii
        obtain ⟨kv2, hb2, _⟩ := hkn.parts
        have c0 : w.cell? ⟨k.b, 0, none⟩ = some (.string k.label) := by rw [blk_cell hb2]; rfl
        have q2 := Aside0.mk (ih (rest.extract k.label.size rest.size) (by simp only [ByteArray.size_extract]; omega) (by simp only [ByteArray.size_extract]; omega) k w hkn (ho.parts.2.2.get k hkm) hf)
        have hleI : (k.label.size : Int) ≤ (rest.size : Int) := by omega
        clear hn ho hf hd ih empty hkm hii eii hkn hb2 hfk
        unfold optPtr at q1
        unfold ptr at q1 q2 ⊢
        go_enter Try.func68, Try.ntmps68
        go_wp2_with (go_at_call 93; refine q1.out.mono ?_; rintro e w1 ⟨rfl, rfl⟩)
        go_wp2_with (go_at_call 68; refine q2.out.mono ?_; rintro e w1 ⟨rfl, rfl⟩)
        go_ret2
        exact ⟨rfl, rfl⟩
/-- what remove gives where the leaf is there -/
def Removed (w : World) (n : Nd) (rest : ByteArray) (l : Lf) (e : Ending) (w' : World) : Prop := ∃ m ns, e = .returned (.tuple #[ptr m.b, ptr l.b]) ∧ delN n rest ns = some (m, l) ∧ NdAt w' m ∧ SupOk w.heap.size w' ns ∧ Below w.heap.size w w'
set_option maxHeartbeats 4000000 in
set_option maxRecDepth 100000 in
theorem remove_here (n : Nd) (rest : ByteArray) (l : Lf) (w : World) (hn : NdAt w n) (ho : Ok n) (h0 : rest.size = 0) (hf : n.leaf = some l) :
    Calls Try.prog 68 #[ptr n.b, .string rest] w (Removed w n rest l) := by
  have q1 := Aside0.mk (fresh w n hn ho.few)
  obtain ⟨kv0, hb0, _, hlf, hks⟩ := hn.parts
  have c1 : w.cell? ⟨n.b, 1, none⟩ = some (.pointer (some ⟨l.b, 0, none⟩)) := by rw [blk_cell hb0, hf]; rfl
  have hnb : n.b < w.heap.size := (Array.getElem?_eq_some_iff.1 hb0).1
  have ed : ∀ ns, delN n rest ns = some (.mk (ns 0).1 n.label none n.kids (ns 0).2, l) := fun ns => by rw [delN, dif_pos h0, hf]; rfl
  have HN := Aside0.mk (And.intro hks (And.intro hnb ed))
  have e0 := empty_of rest h0
  subst e0
  clear hn ho h0 hf hb0 hlf hks hnb ed
  unfold ptr
  go_enter Try.func68, Try.ntmps68
  go_wp2_with (go_at_call 97; refine q1.out.mono ?_)
  rintro e w1 ⟨b, kv, m, rfl, hf⟩
  have HF := Aside0.mk hf
  have c1' := (Kept.of hf.kept).cell c1
  have k1 : w1.cell? ⟨b, 1, none⟩ = some (leafPtr n.leaf) := by rw [blk_cell hf.blk]; rfl
  obtain ⟨lp, elp⟩ := leafPtr_form n.leaf
  rw [elp] at k1
  have f1 : w1.frozen? ⟨b, 1, none⟩ = false := blk_frozen hf.blk 1
  have hbn : ¬ n.b = b := by have := hf.new; have := HN.out.2.1; omega
  have d1 := set_cell_ne (i := 1) (v := .pointer none) c1' hbn
  clear hf q1 elp
  unfold ptr
  go_wp2_with fail
  go_region
  go_wp2_with fail
  go_ret2
  have hf := HF.out
  obtain ⟨hks, hnb, ed⟩ := HN.out
  have KB : Below w.heap.size w ((w1.setCell ⟨b, 1, none⟩ (.pointer none)).drew) := by
    have h := kept_set hf.kept b hf.new 1 (.pointer none)
    exact ⟨h.os, h.tape, h.output, h.size, h.block⟩
  have hKK := Kept.of KB
  obtain ⟨c, hm, hc1, hc2, hc3⟩ := hf.mark
  have hcb : ∀ o t f x, w1.heap[x]? = some o → w1.heap[b]? = some (.cells t 125 f) → (∀ t f, o ≠ .cells t 125 f) → x ≠ b := fun o t f x h1 h2 h3 e => by
    rw [e, h2] at h1
    exact h3 _ _ (Option.some.inj h1).symm
  refine ⟨_, fun _ => (b, m), rfl, ed _, ?_, ⟨fun _ => ⟨hf.new, ?_⟩, fun _ => ⟨c, hm, hc1, ?_, ?_⟩⟩, KB⟩
  · refine NdAt.mk (kv := kv) ?_ ?_ (fun l e => by cases e) (NdsAt.keep hKK _ hks) ⟨_, hm⟩
    · exact heap_setCell w1 (g := b) (o := 1) (.pointer none) hf.blk
    · exact row_of_owns (owns_set hf.row hf.off 1 (.pointer none))
  · have := (Array.getElem?_eq_some_iff.1 hf.blk).1
    simpa [World.setCell] using this
  · have h := (Below.heap_setCell w1 ⟨b, 1, none⟩ (.pointer none) c (hcb _ _ _ c hc2 hf.blk (fun t f e => by cases e))).trans hc2
    exact h
  · have h := (Below.heap_setCell w1 ⟨b, 1, none⟩ (.pointer none) (c + 1) (hcb _ _ _ (c + 1) hc3 hf.blk (fun t f e => by unfold watchObj at e; cases e))).trans hc3
    exact h
end Go.Proofs.Ytkaeglnnahecjaa.T
/- radix: remove at memory, further down; remove whole; Delete. -/
set_option linter.unusedVariables false
set_option linter.unusedSimpArgs false
namespace Go.Proofs.Ytkaeglnnahecjaa.T
open Go.RowKit Go.Lib Go.Proofs Go.Proofs.YtkaeglnnahecjaaW.PrintWords

def nsDown (a b : Nat × Value) (ns : Sup) : Sup := fun j => if j = 0 then a else if j = 1 then b else ns (j - 2)
theorem nsDown_tail (a b : Nat × Value) (ns : Sup) : (fun j => nsDown a b ns (j + 2)) = ns := by
  funext j
  simp [nsDown]
theorem belowAt {w w1 w2 : World} (h : Below w.heap.size w w1) (h2 : Below w1.heap.size w1 w2) : Below w.heap.size w w2 :=
  h.trans ⟨h2.os, h2.tape, h2.output, h2.size, fun x hx => h2.block x (by have := h.size; omega)⟩
theorem size_setCell (w : World) (a : Addr) (v : Value) : (w.setCell a v).heap.size = w.heap.size := by simp [World.setCell]
theorem ns_close {w w1 w2 w4 : World} {n : Nd} {b x : Nat} {kv m : Value} {ns : Sup} (B1 : Below w.heap.size w w1) (hs : SupOk w.heap.size w1 ns) (hf : FreshAt w1 w2 n b kv m) (h24 : ∀ y o, w2.heap[y]? = some o → (y < w1.heap.size ∨ ∃ c, m = ptr (c + 1) ∧ (y = c ∨ y = c + 1)) → w4.heap[y]? = some o) (hsz : w2.heap.size ≤ w4.heap.size) (hx : w.heap.size ≤ x ∧ x < w4.heap.size) :
    SupOk w.heap.size w4 (nsDown (b, m) (x, m) ns) := by
  have hb := (Array.getElem?_eq_some_iff.1 hf.blk).1
  have s1 := B1.size
  have s2 := hf.kept.size
  have hm : NewMark w.heap.size w4 m := by
    obtain ⟨c, hm, hc1, hc2, hc3⟩ := hf.mark
    exact ⟨c, hm, by omega, h24 c _ hc2 (.inr ⟨c, hm, .inl rfl⟩), h24 (c + 1) _ hc3 (.inr ⟨c, hm, .inr rfl⟩)⟩
  refine ⟨fun j => ?_, fun j => ?_⟩
  · unfold nsDown
    split
    · exact ⟨by have := hf.new; show _ ≤ b; omega, by show b < _; omega⟩
    · split
      · exact hx
      · have := hs.new (j - 2); omega
  · unfold nsDown
    split
    · exact hm
    · split
      · exact hm
      · obtain ⟨c, e1, e2, e3, e4⟩ := hs.mark (j - 2)
        have l1 := (Array.getElem?_eq_some_iff.1 e3).1
        have l2 := (Array.getElem?_eq_some_iff.1 e4).1
        exact ⟨c, e1, e2, h24 c _ ((Kept.of hf.kept).at e3) (.inl l1), h24 (c + 1) _ ((Kept.of hf.kept).at e4) (.inl l2)⟩
theorem fresh_apart {w1 w2 : World} {n : Nd} {b : Nat} {kv m : Value} (hf : FreshAt w1 w2 n b kv m) {g : Nat} {cur : Array Value} (hgb : w1.heap.size ≤ g) (hgg : w2.heap[g]? = some (.cells cur 58 (0, 0))) (y : Nat) (o : Obj) (hy : w2.heap[y]? = some o) (h : y < w1.heap.size ∨ ∃ c, m = ptr (c + 1) ∧ (y = c ∨ y = c + 1)) : y ≠ g ∧ y ≠ b := by
  have hb := hf.new
  rcases h with h | ⟨c, hm, h⟩
  · omega
  · obtain ⟨c', hm', hc1, hc2, hc3⟩ := hf.mark
    have e : c = c' := by
      rw [hm] at hm'
      unfold ptr at hm'
      injection hm' with e
      injection e with e
      injection e with e
      omega
    subst e
    have hbk := hf.blk
    constructor
    · intro e; subst e
      rcases h with h | h
      · subst h; rw [hc2] at hgg; cases hgg
      · subst h; rw [hc3] at hgg; unfold watchObj at hgg; cases hgg
    · intro e; subst e
      rcases h with h | h
      · subst h; rw [hc2] at hbk; cases hbk
      · subst h; rw [hc3] at hbk; unfold watchObj at hbk; cases hbk
theorem owns_keep {w w' : World} {base n : Nat} {v : Value} {ps : List Value} (h : w.ownsRow base 58 1 v n ps) (k : Kept w w') : w'.ownsRow base 58 1 v n ps := by
  refine ⟨h.1, ?_⟩
  rcases h.2 with h0 | ⟨g, cap, cur, rfl, hb, hg, rest⟩
  · exact .inl h0
  · exact .inr ⟨g, cap, cur, rfl, hb, k.at hg, rest⟩
theorem close_set {wB w2 w4 w5 : World} {n s : Nd} {b g cap i : Nat} {cur : Array Value} {m : Value} (hn : NdAt wB n) (K2 : Kept wB w2) (hBs : wB.heap.size ≤ w2.heap.size) (hf : FreshAt w2 w4 n b (.slice (some ⟨g, 0, none⟩) n.kids.length cap) m)
    (hgb : w2.heap.size ≤ g) (hgg : w4.heap[g]? = some (.cells cur 58 (0, 0))) (hgc : ∀ j, j < n.kids.length → cur[j]? = (ptrs n.kids)[j]?) (hgn : n.kids.length ≤ cap) (hgm : cap ≤ maxLen) (hgs : cur.size = cap) (B5 : Below w4.heap.size w4 w5)
    (hs : ∀ W, Kept w2 W → (∀ x, w4.heap.size ≤ x → x < w5.heap.size → W.heap[x]? = w5.heap[x]?) → NdAt W s) (hi : i < n.kids.length) :
    NdAt (w5.setCell ⟨g, i, none⟩ (ptr s.b)) (.mk b n.label n.leaf (n.kids.set i s) m) ∧ Below w2.heap.size w2 (w5.setCell ⟨g, i, none⟩ (ptr s.b)) ∧ (∀ y o, w4.heap[y]? = some o → y ≠ g → (w5.setCell ⟨g, i, none⟩ (ptr s.b)).heap[y]? = some o) := by
  have hB : Below w2.heap.size w2 (w5.setCell ⟨g, i, none⟩ (ptr s.b)) := kept_set (belowAt hf.kept B5) g hgb i (ptr s.b)
  have hK := Kept.of hB
  have hbg : b ≠ g := fun e => by have h := hf.blk; rw [e, hgg] at h; cases h
  have up : ∀ y o, w4.heap[y]? = some o → y ≠ g → (w5.setCell ⟨g, i, none⟩ (ptr s.b)).heap[y]? = some o := fun y o h1 h2 => set_at ((Kept.of B5).at h1) h2
  obtain ⟨kv0, hb0, _, hlf, hks⟩ := hn.parts
  obtain ⟨c, hm, _⟩ := hf.mark
  have KB : Kept wB (w5.setCell ⟨g, i, none⟩ (ptr s.b)) := K2.trans hK hBs
  have hgl : g < w4.heap.size := (Array.getElem?_eq_some_iff.1 hgg).1
  have hpl : (ptrs n.kids).length = n.kids.length := by simp [ptrs]
  refine ⟨NdAt.mk (kv := .slice (some ⟨g, 0, none⟩) n.kids.length cap) (up b _ hf.blk hbg) ?_ (hlf.keep KB) ((NdsAt.keep KB _ hks).set i s (hs _ hK (fun x h1 h2 => ?_))) ⟨_, hm⟩, hB, up⟩
  · rw [ptrs_set]
    refine row_of_owns (owns_of (base := w2.heap.size) (n := n.kids.length) hgb (heap_setCell w5 (g := g) (o := i) (ptr s.b) ((Kept.of B5).at hgg)) hgn hgm (by simpa using hgs) (by simp [hpl]) ?_)
    intro j hj
    by_cases e : j = i
    · subst e
      rw [Array.getElem?_setIfInBounds_self_of_lt (by omega), List.getElem?_set_self (by omega)]
    · rw [Array.getElem?_setIfInBounds_ne (by omega), List.getElem?_set_ne (by omega), hgc j hj]
  · exact Below.heap_setCell w5 ⟨g, i, none⟩ (ptr s.b) x (by show x ≠ g; omega)
theorem close_del {wB w2 w4 w5 w6 : World} {n : Nd} {b g cap i : Nat} {cur : Array Value} {m : Value} (hn : NdAt wB n) (K2 : Kept wB w2) (hBs : wB.heap.size ≤ w2.heap.size) (hf : FreshAt w2 w4 n b (.slice (some ⟨g, 0, none⟩) n.kids.length cap) m)
    (hgb : w2.heap.size ≤ g) (hgg : w4.heap[g]? = some (.cells cur 58 (0, 0))) (B5 : Below w4.heap.size w4 w5) (o6 : w6.ownsRow w2.heap.size 58 1 (.slice (some ⟨g, 0, none⟩) (n.kids.length - 1) cap) (n.kids.length - 1) (ptrs (n.kids.eraseIdx i))) (g6 : w5.grownBy w6 (some g)) (hi : i < n.kids.length) :
    NdAt (w6.setCell ⟨b, 2, none⟩ (.slice (some ⟨g, 0, none⟩) (n.kids.length - 1) cap)) (.mk b n.label n.leaf (n.kids.eraseIdx i) m) ∧ Below w2.heap.size w2 (w6.setCell ⟨b, 2, none⟩ (.slice (some ⟨g, 0, none⟩) (n.kids.length - 1) cap)) ∧
      (∀ y o, w4.heap[y]? = some o → y ≠ g → y ≠ b → (w6.setCell ⟨b, 2, none⟩ (.slice (some ⟨g, 0, none⟩) (n.kids.length - 1) cap)).heap[y]? = some o) := by
  have hbg : b ≠ g := fun e => by have h := hf.blk; rw [e, hgg] at h; cases h
  have hs2 := hf.kept.size
  have hs5 := B5.size
  have B6 : Below w2.heap.size w2 w6 := (belowAt hf.kept B5).trans (below_grown g6 (by omega) (fun k hk => by cases hk; exact hgb))
  have hB := kept_set B6 b hf.new 2 (.slice (some ⟨g, 0, none⟩) (n.kids.length - 1) cap)
  have hK := Kept.of hB
  have KB := K2.trans hK hBs
  have up6 : ∀ y o, w4.heap[y]? = some o → y ≠ g → w6.heap[y]? = some o := fun y o h1 h2 => grown_at g6 ((Kept.of B5).at h1) (fun e => h2 (by cases e; rfl))
  obtain ⟨kv0, hb0, _, hlf, hks⟩ := hn.parts
  obtain ⟨c, hm, _⟩ := hf.mark
  refine ⟨NdAt.mk (kv := .slice (some ⟨g, 0, none⟩) (n.kids.length - 1) cap) (heap_setCell w6 (g := b) (o := 2) _ (up6 b _ hf.blk hbg)) ?_ (hlf.keep KB) (NdsAt.of fun k hk => (NdsAt.keep KB _ hks).mem k (List.mem_of_mem_eraseIdx hk)) ⟨_, hm⟩, hB, fun y o h1 h2 h3 => set_at (up6 y o h1 h2) h3⟩
  exact row_of_owns (owns_set o6 (by simp [Value.ownBlock]; exact fun e => hbg e.symm) 2 _)
set_option maxHeartbeats 4000000 in
set_option maxRecDepth 100000 in
theorem remove_deep (w : World) (n k : Nd) (rest : ByteArray) (l : Lf) (hn : NdAt w n) (ho : Ok n) (hfit : Fits n 3999999999999) (h0 : rest.size ≠ 0) (hbig : rest.size < 4000000000000) (hd : downN n rest = some k) (hkm : k ∈ n.kids) (hpos : 0 < k.label.size) (hle : k.label.size ≤ rest.size) (hq : kidN n rest = some k)
    (hfk : findT k (L (rest.extract k.label.size rest.size)) = some l) (IH : Calls Try.prog 68 #[ptr k.b, .string (rest.extract k.label.size rest.size)] w (Removed w k (rest.extract k.label.size rest.size) l)) :
    Calls Try.prog 68 #[ptr n.b, .string rest] w (Removed w n rest l) := by
  obtain ⟨hh, hlt, ek⟩ := kidN_some hq
  have hrp : 0 < rest.size := by omega
  have hne := full_of rest hrp
  have q1 := Aside0.mk (downC w n hn ho rest)
  rw [hd] at q1
  obtain ⟨kv2, hb2, _⟩ := (hn.parts.choose_spec.2.2.2.mem k hkm).parts
  have c0 : w.cell? ⟨k.b, 0, none⟩ = some (.string k.label) := by rw [blk_cell hb2]; rfl
  have hleI : (k.label.size : Int) ≤ (rest.size : Int) := by omega
  have hfew := ho.few
  obtain ⟨i, hi⟩ : ∃ i, pos (n.kids.map fb) (fbS rest) = i := ⟨_, rfl⟩
  have q2 := Aside0.mk (fun w1 h1 w2 b kv m hf => kidF w1 w2 n b kv m (NdAt.keep h1 n hn) ho hf (fbS rest) (fbS_lt rest))
  have ex : ((fbS rest : Nat) : Int) = (rest[0].toNat : Int) := by unfold fbS; rw [← byte0 rest hrp]
  rw [hh, ex, hi] at q2
  have q0 := Aside0.mk (fun w1 (h1 : Kept w w1) => fresh w1 n (NdAt.keep h1 n hn) hfew)
  have hd2 := del_find (rest.extract k.label.size rest.size).size (rest.extract k.label.size rest.size) (Nat.le_refl _) k (ho.parts.2.2.get k hkm)
  have hfk2 : Fits k 3999999999999 := Fits.mono (by omega) k (hfit.parts.2.mem k hkm)
  have hlow : ∀ ns low, delN k (rest.extract k.label.size rest.size) ns = some (low, l) → Ok low ∧ Fits low 3999999999999 := fun ns low e => by
    obtain ⟨m, h1, _, h3, _⟩ := (hd2 ns).2 l hfk
    rw [e] at h1
    cases h1
    exact ⟨h3, fits_del _ _ (Nat.le_refl _) k low _ ns l hfk2 e⟩
  have q4 := Aside0.mk (fun (wB w1 : World) (h1 : Kept wB w1) ns low (e : delN k (rest.extract k.label.size rest.size) ns = some (low, l)) (hl : NdAt wB low) => shapedC wB w1 h1 low hl (hlow ns low e).1 (hlow ns low e).2)
  have ed : ∀ ns, delN n rest ns = (delN k (rest.extract k.label.size rest.size) (fun j => ns (j + 2))).map fun x => (.mk (ns 0).1 n.label n.leaf (putKid n.kids i (shapedN x.1 (ns 1).1)) (ns 0).2, x.2) := fun ns => by
    rw [delN, dif_neg h0, hd]; simp only []; rw [dif_pos hpos, hi]
  obtain ⟨len, elen⟩ : ∃ len, n.kids.length = len := ⟨_, rfl⟩
  have hilen : i < len := by rw [← hi, ← elen]; exact hlt
  have q3 := Aside0.mk IH
  have hkb : (ptrs n.kids)[i]? = some (ptr k.b) := by
    rw [← hi]; simp [ptrs, List.getElem?_eq_getElem hlt, ek]
  have HN := Aside0.mk (And.intro hn (And.intro ed (And.intro elen hkb)))
  have hlen256 : len ≤ 256 := by omega
  clear hn ho hfit hd hkm hq hfk IH hh hlt ek hb2 hfew ex hi hd2 hfk2 hlow ed hle hpos hkb
  unfold optPtr at q1
  unfold ptr at q1 q3 ⊢
  go_enter Try.func68, Try.ntmps68
  go_wp2_with (go_at_call 93; refine q1.out.mono ?_; rintro e w1 ⟨rfl, rfl⟩)
  clear q1
  go_wp2_with (go_at_call 68; refine q3.out.mono ?_)
  rintro e w2 ⟨low, ns, rfl, hdel, hlow, hsup, B2⟩
  have q5 := Aside0.mk (q0.out w2 (Kept.of B2))
  have q6 := Aside0.mk (q2.out w2 (Kept.of B2))
  have q7 := Aside0.mk (fun w1 h1 => q4.out w2 w1 h1 ns low hdel hlow)
  have H2 := Aside0.mk (And.intro hdel (And.intro hlow (And.intro hsup B2)))
  clear q3 q0 q2 q4 hdel hlow hsup B2
  unfold ptr
  go_wp2_with (go_at_call 97; refine q5.out.mono ?_)
  rintro e w3 ⟨b, kv, m, rfl, hf⟩
  have q8 := Aside0.mk (q6.out w3 b kv m hf)
  have q9 := Aside0.mk (q7.out w3 (Kept.of hf.kept))
  obtain ⟨g, cap, cur, rfl, hgb, hgg, hgc, hgn, hgm, hgs⟩ := owns_some hf.row (by rw [HN.out.2.2.1]; omega)
  have HF := Aside0.mk hf
  have HG0 := Aside0.mk (And.intro hgc hgn)
  rw [HN.out.2.2.1] at hf hgc hgn
  have HG := Aside0.mk (And.intro hgb (And.intro hgg (And.intro hgc (And.intro hgn (And.intro hgm hgs)))))
  have k2 : w3.cell? ⟨b, 2, none⟩ = some (.slice (some ⟨g, 0, none⟩) len cap) := by rw [blk_cell hf.blk]; rfl
  have f2 : w3.frozen? ⟨b, 2, none⟩ = false := blk_frozen hf.blk 2
  clear q5 q6 q7 hf hgb hgg hgc hgn hgm hgs
  unfold ptr at q8 ⊢
  go_wp2_with (go_at_call 98; refine q8.out.mono ?_)
  rintro e w4 ⟨rfl, rfl⟩
  clear q8
  have hcase := shaped_any low w4.heap.size
  cases hsh : shapedN low w4.heap.size with
  | some s =>
    rw [hsh] at q9
    unfold optPtr ptr at q9
    have HSH := Aside0.mk (And.intro hsh hcase)
    clear hsh hcase
    go_wp2_with (go_at_call 99; refine q9.out.mono ?_)
    rintro e w5 ⟨rfl, h5a, h5b, B5⟩
    have k2' := (Kept.of B5).cell k2
    have hgg5 := (Kept.of B5).at HG.out.2.1
    have hgs2 := HG.out.2.2.2.2.2
    have cgi : w5.cell? ⟨g, i, none⟩ = some (.pointer (some ⟨k.b, 0, none⟩)) := by rw [blk_cell hgg5, HG.out.2.2.1 i hilen]; exact HN.out.2.2.2
    have fgi : w5.frozen? ⟨g, i, none⟩ = false := blk_frozen hgg5 i
    have H5 := Aside0.mk (And.intro h5a (And.intro h5b (And.intro B5 hgg5)))
    clear h5a h5b B5 hgg5 hgs2 q9 k2 f2
    go_wp2_with fail
    go_ret2
    obtain ⟨hdel, hlow, hsup, B2⟩ := H2.out
    obtain ⟨h5a, h5b, B5, hgg5⟩ := H5.out
    obtain ⟨hn, ed, elen, hkb⟩ := HN.out
    obtain ⟨hgb, hgg, hgc, hgn, hgm, hgs⟩ := HG.out
    obtain ⟨hsh, hcase⟩ := HSH.out
    have hf := HF.out
    subst elen
    have hc := close_set (n := n) hn (Kept.of B2) B2.size hf hgb hgg HG0.out.1 HG0.out.2 hgm hgs B5 (fun W h1 h2 => h5a W h1 h2 s rfl) hilen
    obtain ⟨c1, c2, c3⟩ := hc
    have hbl := (Array.getElem?_eq_some_iff.1 hf.blk).1
    have s24 := hf.kept.size
    have s12 := B2.size
    have s45 := B5.size
    have hx : ∃ x, shapedN low x = some s ∧ w1.heap.size ≤ x ∧ x < (w5.setCell ⟨g, i, none⟩ (ptr s.b)).heap.size := by
      rw [size_setCell]
      rcases hcase with h | h
      · exact ⟨w4.heap.size, hsh, by omega, h5b (by obtain ⟨k', e1, e2⟩ := h; rw [hsh] at e2; exact ⟨k', e1, e2⟩)⟩
      · exact ⟨b, by rw [h]; exact hsh, by have := hf.new; omega, by omega⟩
    obtain ⟨x, hx1, hx2, hx3⟩ := hx
    refine ⟨.mk b n.label n.leaf (n.kids.set i s) m, nsDown (b, m) (x, m) ns, rfl, ?_, c1, ns_close B2 hsup hf (fun y o hy hh => c3 y o hy (fresh_apart hf hgb hgg y o hy hh).1) (by rw [size_setCell]; exact s45) ⟨hx2, hx3⟩, belowAt B2 c2⟩
    rw [ed, nsDown_tail, hdel]
    show some (Nd.mk b n.label n.leaf (putKid n.kids i (shapedN low x)) m, l) = _
    rw [hx1]
    rfl
  | none =>
    rw [hsh] at q9
    unfold optPtr at q9
    have HSH := Aside0.mk (And.intro hsh hcase)
    clear hsh hcase
    go_wp2_with (go_at_call 99; refine q9.out.mono ?_)
    rintro e w5 ⟨rfl, h5a, h5b, B5⟩
    have k2' := (Kept.of B5).cell k2
    have own5 : w5.ownsRow w2.heap.size 58 1 (.slice (some ⟨g, 0, none⟩) len cap) len (ptrs n.kids) := by
      have := owns_keep HF.out.row (Kept.of B5)
      rw [HN.out.2.2.1] at this
      exact this
    have hbg : b ≠ g := fun e => by have h := HF.out.blk; rw [e, HG.out.2.1] at h; cases h
    have f2' : w5.frozen? ⟨b, 2, none⟩ = false := blk_frozen ((Kept.of B5).at HF.out.blk) 2
    have hb5 := (Kept.of B5).at HF.out.blk
    rw [HN.out.2.2.1] at hb5
    have HB5 := Aside0.mk (And.intro hb5 hbg)
    have q10 := Aside0.mk (delRow w5 w2.heap.size g len cap i n.kids own5 hilen)
    have H5 := Aside0.mk (And.intro h5a (And.intro h5b (And.intro B5 own5)))
    clear h5a h5b B5 q9 k2 f2 own5 hb5 hbg
    have ew : IntKind.i64.wrap ((i : Int) + 1) = (i : Int) + 1 := by rw [IntKind.wrap_i64]; omega
    go_wp2_with (go_at_call 100; refine q10.out.mono ?_)
    rintro e w6 ⟨rfl, o6, g6, _⟩
    have hb6 := grown_at g6 HB5.out.1 (fun e => HB5.out.2 (by cases e; rfl))
    have k2'' : w6.cell? ⟨b, 2, none⟩ = some (.slice (some ⟨g, 0, none⟩) len cap) := by rw [blk_cell hb6]; rfl
    have f2'' : w6.frozen? ⟨b, 2, none⟩ = false := blk_frozen hb6 2
    have H6 := Aside0.mk (And.intro o6 g6)
    clear o6 g6 hb6 q10
    go_wp2_with fail
    go_ret2
    obtain ⟨hdel, hlow, hsup, B2⟩ := H2.out
    obtain ⟨h5a, h5b, B5, own5⟩ := H5.out
    obtain ⟨hn, ed, elen, hkb⟩ := HN.out
    obtain ⟨hgb, hgg, hgc, hgn, hgm, hgs⟩ := HG.out
    obtain ⟨hsh, hcase⟩ := HSH.out
    obtain ⟨o6, g6⟩ := H6.out
    have hf := HF.out
    subst elen
    have hc := close_del (n := n) hn (Kept.of B2) B2.size hf hgb hgg B5 o6 g6 hilen
    obtain ⟨c1, c2, c3⟩ := hc
    have hbl := (Array.getElem?_eq_some_iff.1 hf.blk).1
    have s24 := hf.kept.size
    have s12 := B2.size
    have s45 := B5.size
    have s56 := g6.size
    have hx1 : shapedN low b = none := by
      rcases hcase with ⟨k', _, e2⟩ | h
      · rw [hsh] at e2; cases e2
      · rw [h]; exact hsh
    refine ⟨.mk b n.label n.leaf (n.kids.eraseIdx i) m, nsDown (b, m) (b, m) ns, rfl, ?_, c1, ns_close B2 hsup hf (fun y o hy hh => c3 y o hy (fresh_apart hf hgb hgg y o hy hh).1 (fresh_apart hf hgb hgg y o hy hh).2) (by rw [size_setCell]; omega) ⟨by have := hf.new; omega, by rw [size_setCell]; omega⟩, belowAt B2 c2⟩
    rw [ed, nsDown_tail, hdel]
    show some (Nd.mk b n.label n.leaf (putKid n.kids i (shapedN low b)) m, l) = _
    rw [hx1]
    rfl
end Go.Proofs.Ytkaeglnnahecjaa.T
/- radix: Delete; Least, Greatest. -/
set_option linter.unusedVariables false
set_option linter.unusedSimpArgs false
namespace Go.Proofs.Ytkaeglnnahecjaa.T
open Go.RowKit Go.Lib Go.Proofs Go.Proofs.YtkaeglnnahecjaaW.PrintWords

theorem remove_some : ∀ (N : Nat) (rest : ByteArray), rest.size ≤ N → rest.size < 4000000000000 → ∀ (n : Nd) (l : Lf) (w : World), NdAt w n → Ok n → Fits n 3999999999999 → findT n (L rest) = some l →
    Calls Try.prog 68 #[ptr n.b, .string rest] w (Removed w n rest l) := by
  intro N
  induction N with
  | zero =>
    intro rest hN hb n l w hn ho hfit hf
    exact remove_here n rest l w hn ho (by omega) (by rw [← find_rest0 (rest := rest) (by omega)]; exact hf)
  | succ N ih =>
    intro rest hN hb n l w hn ho hfit hf
    by_cases h0 : rest.size = 0
    · exact remove_here n rest l w hn ho h0 (by rw [← find_rest0 h0]; exact hf)
    · rcases down_cases ho h0 with ⟨_, h⟩ | ⟨k, hd, hkm, hpos, hle, hq, hfk⟩
      · rw [h] at hf; cases hf
      · rw [hfk] at hf
        exact remove_deep w n k rest l hn ho hfit h0 hb hd hkm hpos hle hq hf (ih _ (by simp only [ByteArray.size_extract]; omega) (by simp only [ByteArray.size_extract]; omega) k l w (hn.parts.choose_spec.2.2.2.mem k hkm) (ho.parts.2.2.get k hkm) (Fits.mono (by omega) k (hfit.parts.2.mem k hkm)) hf)
theorem leaf_at {w : World} {root : Nd} (h : Good root) (hn : NdAt w root) {k : ByteArray} {l : Lf} (hf : findT root (L k) = some l) : LfAt w (some l) := by
  have := findN_at w k.size k (Nat.le_refl _) root hn
  rw [find_eq h, hf] at this
  exact this
set_option maxHeartbeats 4000000 in
set_option maxRecDepth 100000 in
theorem treeDelete_none (w : World) (tb : Nat) (root : Nd) (size : Int) (k : ByteArray) (h : TrAt w tb root size) (hg : Fine root) (hk : k.size < 4000000000000) (hf : findT root (L k) = none) :
    Calls Try.prog 27 #[ptr tb, .string k] w fun e w' => e = .returned (.tuple #[ptr tb, .int .i64 0, .bool false]) ∧ w' = w := by
  have q1 := Aside0.mk (remove_none k.size k (Nat.le_refl _) hk root w h.root hg.ok hf)
  have c0 : w.cell? ⟨tb, 0, none⟩ = some (.pointer (some ⟨root.b, 0, none⟩)) := by rw [blk_cell h.blk]; rfl
  clear h hg hf
  unfold ptr at q1 ⊢
  go_enter Try.func27, Try.ntmps27
  go_wp2_with (go_at_call 68; refine q1.out.mono ?_; rintro e w1 ⟨rfl, rfl⟩)
  go_ret3
  exact ⟨rfl, rfl⟩
set_option maxHeartbeats 4000000 in
set_option maxRecDepth 100000 in
theorem treeDelete_some (w : World) (tb : Nat) (root : Nd) (size : Int) (k : ByteArray) (l : Lf) (v : Int) (h : TrAt w tb root size) (hg : Fine root) (hk : k.size < 4000000000000) (hs0 : 0 < size) (hs1 : size < 4000000000000) (hf : findT root (L k) = some l) (hv : l.val = .int .i64 v) :
    Calls Try.prog 27 #[ptr tb, .string k] w fun e w' => ∃ tb' m ns, e = .returned (.tuple #[ptr tb', .int .i64 v, .bool true]) ∧ TrAt w' tb' m (size - 1) ∧ delN root k ns = some (m, l) ∧ w.heap.size ≤ tb' ∧ SupOk w.heap.size w' ns ∧ Below w.heap.size w w' := by
  have q1 := Aside0.mk (remove_some k.size k (Nat.le_refl _) hk root l w h.root hg.ok hg.fits hf)
  have c0 : w.cell? ⟨tb, 0, none⟩ = some (.pointer (some ⟨root.b, 0, none⟩)) := by rw [blk_cell h.blk]; rfl
  have c1 : w.cell? ⟨tb, 1, none⟩ = some (.int .i64 size) := by rw [blk_cell h.blk]; rfl
  have hl := leaf_at hg.toGood h.root hf l rfl
  have cv : w.cell? ⟨l.b, 1, none⟩ = some (.int .i64 v) := by rw [blk_cell hl, hv]; rfl
  have H := Aside0.mk (And.intro h hs0)
  have ew : IntKind.i64.wrap (size - 1) = size - 1 := by rw [IntKind.wrap_i64]; omega
  have ew2 : wrap64 (size - 1) = size - 1 := by unfold wrap64; omega
  have HW := Aside0.mk (And.intro ew ew2)
  clear h hg hf hl hv ew ew2
  unfold ptr at q1 ⊢
  go_enter Try.func27, Try.ntmps27
  go_wp2_with (go_at_call 68; refine q1.out.mono ?_)
  rintro e w1 ⟨m, ns, rfl, hdel, hm, hsup, B1⟩
  have d1 := (Kept.of B1).cell c1
  have dv := (Kept.of B1).cell cv
  have H1 := Aside0.mk (And.intro hdel (And.intro hm (And.intro hsup B1)))
  clear hdel hm hsup B1 q1 c0 c1 cv
  unfold ptr
  have ew := HW.out.1
  go_wp2_with fail
  go_region_held3 (fun w' => w'.cell? ⟨tb, 1, none⟩ = some (.int .i64 size) ∧ w'.cell? ⟨l.b, 1, none⟩ = some (.int .i64 v))
    (first | exact ⟨d1, dv⟩ | exact ⟨cellA d1, cellA dv⟩)
    (fail)
  go_wp2_with fail
  go_ret3
  obtain ⟨hdel, hm, hsup, B1⟩ := H1.out
  have B := (B1.alloc B1.size (.cells #[.pointer (some ⟨m.b, 0, none⟩), .int .i64 (size - 1)] 133))
  have K : Kept w1 (w1.alloc (.cells #[.pointer (some ⟨m.b, 0, none⟩), .int .i64 (size - 1)] 133)).drew := fun x hx => Kept.of ((Below.refl _ w1).alloc (Nat.le_refl _) _) x hx
  refine ⟨w1.heap.size, m, ns, rfl, ⟨heap_alloc_new w1 _, NdAt.keep K _ hm⟩, hdel, B1.size, ⟨fun j => ?_, fun j => (hsup.mark j).keep K⟩, ⟨B.os, B.tape, B.output, B.size, B.block⟩⟩
  have h1 := hsup.new j
  have : (w1.alloc (.cells #[.pointer (some ⟨m.b, 0, none⟩), .int .i64 (size - 1)] 133)).drew.heap.size = w1.heap.size + 1 := by
    show (w1.alloc _).heap.size = _
    rw [World.size_alloc]
  omega
end Go.Proofs.Ytkaeglnnahecjaa.T
