/- timers: TimersOnce returns true, the walk. -/
import Derived.Test.YtioaihimmmjhcaaT17
import Derived.Test.YtioaihimmmjhcaaO7
import Derived.Maps.Views
set_option linter.unusedVariables false
set_option linter.unusedSimpArgs false
namespace Go.Proofs.Ytioaihimmmjhcaa.T
open Go.RowKit Go.Maps Go.Proofs.YtioaihimmmjhcaaW.PrintWords

def U64s (w : World) (A : Option Addr) (l : List Int) : Prop := ∀ i (h : i < l.length), ∃ ad, A = some ad ∧ w.cell? (ad.add i) = some (.int .u64 l[i])
/-- two wheels in which the first i numbers are set, in blocks of their own -/
def Two (w0 w : World) (b1 M1 b2 M2 : Nat) (l : List Int) (i : Nat) : Prop := ∃ (bs1 bs2 : Nat → Nat) (v1 v2 : Value),
  Wf w b1 M1 0 i l.length v1 (setL bs1 l i) i (Dn i) ∧ Wf w b2 M2 0 i l.length v2 (setL bs2 l i) i (Dn i) ∧
  (∀ x ∈ b1 :: M1 :: footOf v1 (setL bs1 l i), x ∉ b2 :: M2 :: footOf v2 (setL bs2 l i)) ∧
  (∀ x, x ∈ b1 :: M1 :: footOf v1 (setL bs1 l i) ∨ x ∈ b2 :: M2 :: footOf v2 (setL bs2 l i) → w0.heap.size ≤ x) ∧ Below w0.heap.size w0 w
theorem two_start {w w0 w1 w2 : World} {l : List Int} {b1 M1 b2 M2 : Nat} (HB0 : Below w.heap.size w w0) (hb1 : w0.heap.size ≤ b1) (hM1 : w0.heap.size ≤ M1) (hw1 : Wf w1 b1 M1 0 0 l.length (.slice none 0 0) [] 0 (.map [])) (F1 : Fr [] w0 w1)
    (hb2 : w1.heap.size ≤ b2) (hM2 : w1.heap.size ≤ M2) (hw2 : Wf w2 b2 M2 0 0 l.length (.slice none 0 0) [] 0 (.map [])) (F2 : Fr [] w1 w2) : Two w w2 b1 M1 b2 M2 l 0 := by
  have lt1 := hw1.lt
  have s1 := F1.size
  have s0 := HB0.size
  have m2 : ∀ x ∈ b2 :: M2 :: footOf (.slice none 0 0) (setL (fun _ => 0) l 0), w1.heap.size ≤ x := by
    intro x hx
    simp [footOf, rowOf, Value.ownBlock, setL] at hx
    rcases hx with e | e <;> omega
  have m1 : ∀ x ∈ b1 :: M1 :: footOf (.slice none 0 0) (setL (fun _ => 0) l 0), w0.heap.size ≤ x ∧ x < w1.heap.size := by
    intro x hx
    refine ⟨?_, lt1 x hx⟩
    simp [footOf, rowOf, Value.ownBlock, setL] at hx
    rcases hx with e | e <;> omega
  exact ⟨fun _ => 0, fun _ => 0, .slice none 0 0, .slice none 0 0, hw1.fr F2 (by simp), hw2, fun x hx h => by have := m1 x hx; have := m2 x h; omega, fun x hx => by rcases hx with h | h; have := m1 x h; omega; have := m2 x h; omega, HB0.trans ((below_of F1 s0 (by simp)).trans (below_of F2 (by omega) (by simp)))⟩
theorem mem3 {b M x : Nat} {S : List Nat} : x ∈ b :: M :: S ↔ x = b ∨ x = M ∨ x ∈ S := by simp
theorem two_next {w wr w3 w4 : World} {l : List Int} {b1 M1 b2 M2 i : Nat} {bs1 bs2 : Nat → Nat} {v1 v2 v3 v4 : Value} (hi : i < l.length) (hl : l.length < 1000000000000)
    (h1 : Wf wr b1 M1 0 i l.length v1 (setL bs1 l i) i (Dn i)) (h2 : Wf wr b2 M2 0 i l.length v2 (setL bs2 l i) i (Dn i)) (hd : ∀ x ∈ b1 :: M1 :: footOf v1 (setL bs1 l i), x ∉ b2 :: M2 :: footOf v2 (setL bs2 l i))
    (hg : ∀ x, x ∈ b1 :: M1 :: footOf v1 (setL bs1 l i) ∨ x ∈ b2 :: M2 :: footOf v2 (setL bs2 l i) → w.heap.size ≤ x) (hb : Below w.heap.size w wr)
    (hw3 : Wf w3 b1 M1 0 (IntKind.u64.wrap (i + 1)) l.length v3 (upL (setL bs1 l i ++ [(wr.heap.size, ⟨l[i], i, i⟩)]) (setL bs1 l i).length) (i + 1) ((Dn i).put (idL i) (.lit (.bool true))))
    (hf3 : ∀ x ∈ footOf v3 (upL (setL bs1 l i ++ [(wr.heap.size, ⟨l[i], i, i⟩)]) (setL bs1 l i).length), x ∈ footOf v1 (setL bs1 l i) ∨ wr.heap.size ≤ x) (F3 : Fr (b1 :: M1 :: footOf v1 (setL bs1 l i)) wr w3)
    (hw4 : Wf w4 b2 M2 0 (IntKind.u64.wrap (i + 1)) l.length v4 (upL (setL bs2 l i ++ [(w3.heap.size, ⟨l[i], i, i⟩)]) (setL bs2 l i).length) (i + 1) ((Dn i).put (idL i) (.lit (.bool true))))
    (hf4 : ∀ x ∈ footOf v4 (upL (setL bs2 l i ++ [(w3.heap.size, ⟨l[i], i, i⟩)]) (setL bs2 l i).length), x ∈ footOf v2 (setL bs2 l i) ∨ w3.heap.size ≤ x) (F4 : Fr (b2 :: M2 :: footOf v2 (setL bs2 l i)) w3 w4) : Two w w4 b1 M1 b2 M2 l (i + 1) := by
  have ew : IntKind.u64.wrap ((i : Int) + 1) = ((i + 1 : Nat) : Int) := by simp [IntKind.wrap, IntKind.signed, IntKind.bits]; omega
  have e1 := setL_next bs1 l i wr.heap.size hi
  have e2 := setL_next bs2 l i w3.heap.size hi
  rw [← e1, ew] at hw3
  rw [← e1] at hf3
  rw [← e2, ew] at hw4
  rw [← e2] at hf4
  have l1 := h1.lt
  have l2 := h2.lt
  have l3 := hw3.lt
  have s3 := F3.size
  have sb := hb.size
  have g2 : ∀ x ∈ b1 :: M1 :: footOf v3 (setL (fun j => if j = i then wr.heap.size else bs1 j) l (i + 1)), x ∈ b1 :: M1 :: footOf v1 (setL bs1 l i) ∨ wr.heap.size ≤ x := fun x hx => by
    rcases mem3.1 hx with e | e | e
    · exact .inl (mem3.2 (.inl e))
    · exact .inl (mem3.2 (.inr (.inl e)))
    · rcases hf3 x e with e | e
      · exact .inl (mem3.2 (.inr (.inr e)))
      · exact .inr e
  have g4 : ∀ x ∈ b2 :: M2 :: footOf v4 (setL (fun j => if j = i then w3.heap.size else bs2 j) l (i + 1)), x ∈ b2 :: M2 :: footOf v2 (setL bs2 l i) ∨ w3.heap.size ≤ x := fun x hx => by
    rcases mem3.1 hx with e | e | e
    · exact .inl (mem3.2 (.inl e))
    · exact .inl (mem3.2 (.inr (.inl e)))
    · rcases hf4 x e with e | e
      · exact .inl (mem3.2 (.inr (.inr e)))
      · exact .inr e
  refine ⟨_, _, v3, v4, hw3.fr F4 ?_, hw4, ?_, ?_, ?_⟩
  · intro x hx h
    rcases g2 x hx with e | e
    · exact hd x e h
    · have := l2 x h; omega
  · intro x hx h
    have := l3 x hx
    rcases g4 x h with e | e
    · rcases g2 x hx with e' | e'
      · exact hd x e' e
      · have := l2 x e; omega
    · omega
  · intro x hx
    rcases hx with h | h
    · rcases g2 x h with e | e
      · exact hg x (.inl e)
      · omega
    · rcases g4 x h with e | e
      · exact hg x (.inr e)
      · omega
  · exact hb.trans ((below_of F3 sb (fun x hx => hg x (.inl hx))).trans (below_of F4 (by omega) (fun x hx => hg x (.inr hx))))
theorem adv_heap (ts : List (Nat × Tm)) (t : Int) (h : Heap ts ts.length) : Heap (advL ts t).2 (advL ts t).2.length := by
  obtain ⟨f, f1, f2, f3, f4, f5, f6⟩ := adv_facts _ ts t (Nat.le_refl _) h
  exact f5
theorem adv_len (ts : List (Nat × Tm)) (t : Int) (h : Heap ts ts.length) : (advL ts t).1.length + (advL ts t).2.length = ts.length := by
  obtain ⟨f, f1, f2, f3, f4, f5, f6⟩ := adv_facts _ ts t (Nat.le_refl _) h
  have := f6.length_eq
  rw [List.length_append, List.length_map, List.length_map] at this
  rw [f1, List.length_map]
  exact this
set_option maxHeartbeats 8000000 in
set_option maxRecDepth 100000 in
theorem once (w : World) (A : Option Addr) (c : Nat) (l : List Int) (mid end_ : Int) (hA : U64s w A l) (hl : l.length < 1000000000000) (hmid : 0 ≤ mid) (hend : 0 ≤ end_) :
    Calls Try.prog 4 #[.slice A l.length c, .int .u64 mid, .int .u64 end_] w fun e w' => e = .returned (.bool true) ∧ Below w.heap.size w w' := by
  have HA := Aside0.mk hA
  clear hA
  have al := Aside0.mk (alive w)
  go_enter Try.func4, Try.ntmps4
  go_wp2_with (go_at_call 6; refine al.out.mono ?_)
  rintro e w0 ⟨rfl, B0⟩
  have HB0 := Aside0.mk B0
  clear B0 al
  go_wp2_with fail
  · have hlh : end_ ≤ mid := by omega
    go_wp2_with (go_at_call 7; refine (wheelNew w0 l.length (by omega)).mono ?_)
    rintro e w1 ⟨b1, M1, rfl, hb1, hM1, hw1, F1⟩
    have H1 := Aside0.mk (And.intro hb1 (And.intro hM1 (And.intro hw1 F1)))
    clear hb1 hM1 hw1 F1
    go_wp2_with (go_at_call 7; refine (wheelNew w1 l.length (by omega)).mono ?_)
    rintro e w2 ⟨b2, M2, rfl, hb2, hM2, hw2, F2⟩
    have H2 := Aside0.mk (two_start HB0.out H1.out.1 H1.out.2.1 H1.out.2.2.1 H1.out.2.2.2 hb2 hM2 hw2 F2)
    clear hb2 hM2 hw2 F2 H1
    go_wp2_with fail
    go_loopg [39] (l.length + 1) (fun kq v39 w' => ∃ (i : Nat), v39 = .int .i64 (i : Int) ∧ Aside0 (i + kq = l.length + 1 ∧ i ≤ l.length) ∧ Aside0 (Two w w' b1 M1 b2 M2 l i))
    case atStart => exact ⟨0, rfl, ⟨by omega⟩, H2⟩
    case round =>
      obtain ⟨i, rfl, HI, HT⟩ := hrel
      by_cases hi : i < l.length
      · obtain ⟨ad, ea, ka⟩ := HA.out i hi
        obtain ⟨bs1, bs2, v1, v2, hw1, hw2, hd, hg, hb⟩ := HT.out
        have ka2 : wr.cell? (ad.add i) = some (.int .u64 l[i]) := (hb.cell (World.block_lt_of_cell? w _ ka)).trans ka
        subst ea
        clear ka HT
        have HII := Aside0.mk hi
        have HW1 := Aside0.mk hw1
        have HW2 := Aside0.mk hw2
        have HR := Aside0.mk (And.intro hd (And.intro hg hb))
        clear hd hg hb hw1 hw2
        have q1 := Aside0.mk (wheelSet wr b1 M1 i (setL bs1 l i) i l[i] 0 i l.length v1 (Dn i) HW1.out (by rw [setL_length]; omega) (by omega) (id_wf i (by omega)) (Dn_free i i (Nat.le_refl _)) (by rw [setL_length]; omega))
        go_wp2_with (go_at_call 8; refine q1.out.mono ?_)
        rintro e w3 ⟨rfl, v3, hw3, hf3, F3⟩
        have H3 := Aside0.mk (And.intro hw3 (And.intro hf3 F3))
        have hw2' := HW2.out.fr F3 (fun x hx h => HR.out.1 x h hx)
        clear hw3 hf3 F3 q1
        have q2 := Aside0.mk (wheelSet w3 b2 M2 i (setL bs2 l i) i l[i] 0 i l.length v2 (Dn i) hw2' (by rw [setL_length]; omega) (by omega) (id_wf i (by omega)) (Dn_free i i (Nat.le_refl _)) (by rw [setL_length]; omega))
        clear hw2'
        go_wp2_with (go_at_call 8; refine q2.out.mono ?_)
        rintro e w4 ⟨rfl, v4, hw4, hf4, F4⟩
        have H4 := Aside0.mk (And.intro hw4 (And.intro hf4 F4))
        clear hw4 hf4 F4 q2
        go_wp2_with fail
        go_roundg (l.length - i)
        case measure => have := HI.out; omega
        case rel => exact ⟨i + 1, by simp, ⟨by have := HI.out; have := HII.out; omega⟩, ⟨two_next HII.out hl HW1.out HW2.out HR.out.1 HR.out.2.1 HR.out.2.2 H3.out.1 H3.out.2.1 H3.out.2.2 H4.out.1 H4.out.2.1 H4.out.2.2⟩⟩
      · have hin : i = l.length := by have := HI.out; omega
        subst hin
        obtain ⟨bs1, bs2, v1, v2, hw1, hw2, hd, hg, hb⟩ := HT.out
        have HW2 := Aside0.mk hw2
        have HR := Aside0.mk (And.intro hd (And.intro hg hb))
        have HLT := Aside0.mk (And.intro hw1.lt hw2.lt)
        have q1 := Aside0.mk (wadvance wr b1 M1 l.length (setL bs1 l l.length) 0 end_ _ _ v1 _ hw1 (by rw [setL_length]; omega) (by omega) (setL_ids bs1 l l.length hl))
        clear hw1 hw2 hd hg hb HT
        go_wp2_with (go_at_call 9; refine q1.out.mono ?_)
        rintro e w3 ⟨x, rfl, hx, v3, ⟨k3, D3, hw3⟩, hf3, F3⟩
        have hids3 : ∀ y ∈ (advL (setL bs1 l l.length) end_).2, (idL y.2.id).wf = true := by
          obtain ⟨f, f1, f2, f3, f4, f5, f6⟩ := adv_facts _ (setL bs1 l l.length) end_ (Nat.le_refl _) (setL_heap bs1 l l.length)
          intro y hy
          have hy2 := f6.mem_iff.1 (List.mem_append.2 (.inr (List.mem_map_of_mem (f := (·.2)) hy)))
          obtain ⟨z, hz, ez⟩ := List.mem_map.1 hy2
          have e2 : z.2 = y.2 := ez
          rw [← e2]
          exact setL_ids bs1 l l.length hl z hz
        have hlen3 : (advL (setL bs1 l l.length) end_).1.length + (advL (setL bs1 l l.length) end_).2.length = l.length := by
          obtain ⟨f, f1, f2, f3, f4, f5, f6⟩ := adv_facts _ (setL bs1 l l.length) end_ (Nat.le_refl _) (setL_heap bs1 l l.length)
          have := f6.length_eq
          rw [List.length_append, List.length_map, List.length_map, setL_length] at this
          rw [f1, List.length_map]
          exact this
        have q2 := Aside0.mk (wadvance w3 b1 M1 k3 (advL (setL bs1 l l.length) end_).2 end_ mid _ _ v3 _ hw3 (by omega) (by omega) hids3)
        have H3 := Aside0.mk (And.intro hx (And.intro hf3 (And.intro F3 hlen3)))
        clear hx hf3 F3 hids3 hlen3 hw3 q1
        go_wp2_with (go_at_call 9; refine q2.out.mono ?_)
        rintro e w4 ⟨y, rfl, hy, v4, ⟨k4, D4, hw4⟩, hf4, F4⟩
        have l1 := HLT.out.1
        have l2 := HLT.out.2
        have S4 : ∀ u ∈ b1 :: M1 :: footOf v3 (advL (setL bs1 l l.length) end_).2, u ∈ b1 :: M1 :: footOf v1 (setL bs1 l l.length) := fun u hu => by
          rcases mem3.1 hu with e | e | e
          · exact mem3.2 (.inl e)
          · exact mem3.2 (.inr (.inl e))
          · exact mem3.2 (.inr (.inr (H3.out.2.1 u e)))
        have hw2 := (HW2.out.fr H3.out.2.2.1 (fun u hu h => HR.out.1 u h hu)).fr F4 (fun u hu h => HR.out.1 u (S4 u h) hu)
        have q3 := Aside0.mk (wadvance w4 b2 M2 l.length (setL bs2 l l.length) 0 mid _ _ v2 _ hw2 (by rw [setL_length]; omega) (by omega) (setL_ids bs2 l l.length hl))
        have H4 := Aside0.mk (And.intro hy (And.intro hf4 (And.intro F4 (And.intro S4 hw4))))
        clear hy hf4 F4 S4 hw4 hw2 l1 l2 q2
        go_wp2_with (go_at_call 9; refine q3.out.mono ?_)
        rintro e w5 ⟨z, rfl, hz, v5, ⟨k5, D5, hw5⟩, hf5, F5⟩
        have H5 := Aside0.mk (And.intro hz (And.intro hf5 (And.intro F5 hw5)))
        clear hz hf5 F5 hw5 q3
        have S6 : ∀ u ∈ b1 :: M1 :: footOf v4 (advL (advL (setL bs1 l l.length) end_).2 mid).2, u ∈ b1 :: M1 :: footOf v1 (setL bs1 l l.length) := fun u hu => by
          rcases mem3.1 hu with e | e | e
          · exact mem3.2 (.inl e)
          · exact mem3.2 (.inr (.inl e))
          · exact H4.out.2.2.2.1 u (mem3.2 (.inr (.inr (H4.out.2.1 u e))))
        have q4 := Aside0.mk (wheelLen w5 b1 M1 k4 _ _ _ _ v4 D4 (H4.out.2.2.2.2.fr H5.out.2.2.1 (fun u hu h => HR.out.1 u (S6 u hu) h)))
        have q5 := Aside0.mk (wheelLen w5 b2 M2 k5 _ _ _ _ v5 D5 H5.out.2.2.2)
        have ht := setL_two bs1 bs2 l l.length end_ mid hlh
        rw [← ht.2] at q5
        have HT := Aside0.mk ht
        clear ht S6
        go_wp2_with (go_at_call 10; refine q4.out.mono ?_)
        rintro e w6 ⟨rfl, rfl⟩
        clear q4
        go_wp2_with (go_at_call 10; refine q5.out.mono ?_)
        rintro e w7 ⟨rfl, rfl⟩
        clear q5
        have l1 := HLT.out.1
        have l2 := HLT.out.2
        have z3 := H3.out.2.2.1.size
        have z4 := H4.out.2.2.1.size
        have z5 := H5.out.2.2.1.size
        have rx := (ownsRow_fr (ownsRow_fr H3.out.1 H4.out.2.2.1 (fun g hg h => by have := (H3.out.1.lt g hg).1; have := l1 g (H4.out.2.2.2.1 g h); omega)) H5.out.2.2.1 (fun g hg h => by have := (H3.out.1.lt g hg).1; have := l2 g h; omega))
        have ry := ownsRow_fr H4.out.1 H5.out.2.2.1 (fun g hg h => by have := (H4.out.1.lt g hg).1; have := l2 g h; omega)
        have rz := H5.out.1
        obtain ⟨X, eX⟩ : ∃ X, (advL (setL bs1 l l.length) end_).1 = X := ⟨_, rfl⟩
        obtain ⟨Y, eY⟩ : ∃ Y, (advL (advL (setL bs1 l l.length) end_).2 mid).1 = Y := ⟨_, rfl⟩
        obtain ⟨Z, eZ⟩ : ∃ Z, (advL (setL bs2 l l.length) mid).1 = Z := ⟨_, rfl⟩
        have hXYZ : X ++ Y = Z := by rw [← eX, ← eY, ← eZ]; exact HT.out.1
        have bX : X.length ≤ l.length := by have := H3.out.2.2.2; rw [eX] at this; omega
        have bY : Y.length ≤ l.length := by
          have h1 := adv_len (advL (setL bs1 l l.length) end_).2 mid (adv_heap _ end_ (setL_heap bs1 l l.length))
          have h2 := H3.out.2.2.2
          rw [eY] at h1
          omega
        rw [eX] at rx
        rw [eY] at ry
        rw [eZ] at rz
        have HX := Aside0.mk rx
        have HY := Aside0.mk ry
        have HZ := Aside0.mk rz
        have HXYZ := Aside0.mk hXYZ
        have HS := Aside0.mk (And.intro z3 (And.intro z4 z5))
        have own0 := Aside0.mk (show (w7.alloc (.cells #[] 3)).ownsRow w7.heap.size 3 1 (.slice (some ⟨w7.heap.size, 0, none⟩) 0 0) 0 (intsOf []) from World.ownsRow_lit (base := w7.heap.size) (e := 3) (size := 1) w7 #[] 0 (Nat.le_refl _) (by decide) (by simp))
        clear l1 l2 z3 z4 z5 rx ry rz hXYZ eX eY eZ
        go_wp2_with (at_builtin; refine wpList_appI rfl _ _ rfl _ w7.heap.size (.slice (some ⟨w7.heap.size, 0, none⟩) 0 0) 0 [] rfl own0.out wr.heap.size x X.length X rfl (HX.out.alloc _) (by omega) (by omega) (by simp only [World.size_alloc]; omega) ?_)
        intro v8 w8 o8 g8
        have o8' : w8.ownsRow w7.heap.size 3 1 v8 X.length (intsOf X) := by simpa using o8
        have HO8 := Aside0.mk o8'
        have HY8 := Aside0.mk ((HY.out.alloc (.cells #[] 3)).kept g8 (.inr (fun e => Nat.lt_irrefl _ (HY.out.lt w7.heap.size e).2)))
        have HZ8 := Aside0.mk ((HZ.out.alloc (.cells #[] 3)).kept g8 (.inr (fun e => Nat.lt_irrefl _ (HZ.out.lt w7.heap.size e).2)))
        have G8 := Aside0.mk g8
        have z8 := g8.size
        simp only [World.size_alloc] at z8
        clear o8 o8' g8
        go_wp2_with (at_builtin; refine wpList_appI rfl _ _ rfl _ w7.heap.size v8 X.length X rfl HO8.out w3.heap.size y Y.length Y rfl HY8.out (by omega) (by omega) (by omega) ?_)
        intro v9 w9 o9 g9
        have hz9 : w9.ownsRow w4.heap.size 3 1 z Z.length (intsOf Z) := HZ8.out.kept g9 (by
          cases e : z.ownBlock with
          | none => exact .inl rfl
          | some g => exact .inr (fun e2 => by
              have h1 := (HZ.out.lt g e).2
              have h2 := (HO8.out.lt g e2.symm).1
              omega))
        rw [HXYZ.out] at o9
        have bZ : Z.length < 4000000000000 := by rw [← HXYZ.out, List.length_append]; omega
        obtain ⟨q1, A9, c9, e9, i9⟩ := ints_of o9
        obtain ⟨q2, A10, c10, e10, i10⟩ := ints_of hz9
        have G9 := Aside0.mk g9
        have z9 := g9.size
        have hsame := Aside0.mk (sameInts w9 A9 A10 c9 c10 Z Z i9 i10 bZ bZ)
        have H9 := Aside0.mk (And.intro (below_of (Fr.ofGrown G8.out (S := [w7.heap.size]) (fun u hu => by simpa [Value.ownBlock] using hu.symm)) (B := w7.heap.size) (by simp only [World.size_alloc]; omega) (by simp)) (below_of (Fr.ofGrown G9.out (S := rowOf v8) (fun u hu => mem_rowOf.2 hu)) (B := w7.heap.size) (by omega) (fun u hu => (HO8.out.lt u (mem_rowOf.1 hu)).1)))
        clear o9 g9 hz9 q1 q2 i9 i10
        subst e9 e10
        go_wp2_with (go_at_call 11; refine hsame.out.mono ?_)
        rintro e w10 rfl F10 hh10
        have H10 := Aside0.mk F10
        clear F10 hh10 hsame
        go_wp2_with fail
        go_ret
        refine ⟨rfl, ?_⟩
        have l1 := HR.out.2.1
        have sb := HR.out.2.2.size
        have hs := HS.out
        have lo : ∀ (a b : World), Below w7.heap.size a b → Below w.heap.size a b := fun a b h => ⟨h.os, h.tape, h.output, h.size, fun k hk => h.block k (by omega)⟩
        have B3 := HR.out.2.2.trans (below_of H3.out.2.2.1 sb (fun u hu => l1 u (.inl hu)))
        have B4 := B3.trans (below_of H4.out.2.2.1 (by omega) (fun u hu => l1 u (.inl (H4.out.2.2.2.1 u hu))))
        have B5 := B4.trans (below_of H5.out.2.2.1 (by omega) (fun u hu => l1 u (.inr hu)))
        have B6 := B5.trans (below_of (Fr.alloc w7 (.cells #[] 3)) (by omega) (by simp))
        exact ((B6.trans (lo _ _ H9.out.1)).trans (lo _ _ H9.out.2)).trans (below_of H10.out (by omega) (by simp))
  · have hlh : mid ≤ end_ := by omega
    go_wp2_with (go_at_call 7; refine (wheelNew w0 l.length (by omega)).mono ?_)
    rintro e w1 ⟨b1, M1, rfl, hb1, hM1, hw1, F1⟩
    have H1 := Aside0.mk (And.intro hb1 (And.intro hM1 (And.intro hw1 F1)))
    clear hb1 hM1 hw1 F1
    go_wp2_with (go_at_call 7; refine (wheelNew w1 l.length (by omega)).mono ?_)
    rintro e w2 ⟨b2, M2, rfl, hb2, hM2, hw2, F2⟩
    have H2 := Aside0.mk (two_start HB0.out H1.out.1 H1.out.2.1 H1.out.2.2.1 H1.out.2.2.2 hb2 hM2 hw2 F2)
    clear hb2 hM2 hw2 F2 H1
    go_wp2_with fail
    go_loopg [39] (l.length + 1) (fun kq v39 w' => ∃ (i : Nat), v39 = .int .i64 (i : Int) ∧ Aside0 (i + kq = l.length + 1 ∧ i ≤ l.length) ∧ Aside0 (Two w w' b1 M1 b2 M2 l i))
    case atStart => exact ⟨0, rfl, ⟨by omega⟩, H2⟩
    case round =>
      obtain ⟨i, rfl, HI, HT⟩ := hrel
      by_cases hi : i < l.length
      · obtain ⟨ad, ea, ka⟩ := HA.out i hi
        obtain ⟨bs1, bs2, v1, v2, hw1, hw2, hd, hg, hb⟩ := HT.out
        have ka2 : wr.cell? (ad.add i) = some (.int .u64 l[i]) := (hb.cell (World.block_lt_of_cell? w _ ka)).trans ka
        subst ea
        clear ka HT
        have HII := Aside0.mk hi
        have HW1 := Aside0.mk hw1
        have HW2 := Aside0.mk hw2
        have HR := Aside0.mk (And.intro hd (And.intro hg hb))
        clear hd hg hb hw1 hw2
        have q1 := Aside0.mk (wheelSet wr b1 M1 i (setL bs1 l i) i l[i] 0 i l.length v1 (Dn i) HW1.out (by rw [setL_length]; omega) (by omega) (id_wf i (by omega)) (Dn_free i i (Nat.le_refl _)) (by rw [setL_length]; omega))
        go_wp2_with (go_at_call 8; refine q1.out.mono ?_)
        rintro e w3 ⟨rfl, v3, hw3, hf3, F3⟩
        have H3 := Aside0.mk (And.intro hw3 (And.intro hf3 F3))
        have hw2' := HW2.out.fr F3 (fun x hx h => HR.out.1 x h hx)
        clear hw3 hf3 F3 q1
        have q2 := Aside0.mk (wheelSet w3 b2 M2 i (setL bs2 l i) i l[i] 0 i l.length v2 (Dn i) hw2' (by rw [setL_length]; omega) (by omega) (id_wf i (by omega)) (Dn_free i i (Nat.le_refl _)) (by rw [setL_length]; omega))
        clear hw2'
        go_wp2_with (go_at_call 8; refine q2.out.mono ?_)
        rintro e w4 ⟨rfl, v4, hw4, hf4, F4⟩
        have H4 := Aside0.mk (And.intro hw4 (And.intro hf4 F4))
        clear hw4 hf4 F4 q2
        go_wp2_with fail
        go_roundg (l.length - i)
        case measure => have := HI.out; omega
        case rel => exact ⟨i + 1, by simp, ⟨by have := HI.out; have := HII.out; omega⟩, ⟨two_next HII.out hl HW1.out HW2.out HR.out.1 HR.out.2.1 HR.out.2.2 H3.out.1 H3.out.2.1 H3.out.2.2 H4.out.1 H4.out.2.1 H4.out.2.2⟩⟩
      · have hin : i = l.length := by have := HI.out; omega
        subst hin
        obtain ⟨bs1, bs2, v1, v2, hw1, hw2, hd, hg, hb⟩ := HT.out
        have HW2 := Aside0.mk hw2
        have HR := Aside0.mk (And.intro hd (And.intro hg hb))
        have HLT := Aside0.mk (And.intro hw1.lt hw2.lt)
        have q1 := Aside0.mk (wadvance wr b1 M1 l.length (setL bs1 l l.length) 0 mid _ _ v1 _ hw1 (by rw [setL_length]; omega) (by omega) (setL_ids bs1 l l.length hl))
        clear hw1 hw2 hd hg hb HT
        go_wp2_with (go_at_call 9; refine q1.out.mono ?_)
        rintro e w3 ⟨x, rfl, hx, v3, ⟨k3, D3, hw3⟩, hf3, F3⟩
        have hids3 : ∀ y ∈ (advL (setL bs1 l l.length) mid).2, (idL y.2.id).wf = true := by
          obtain ⟨f, f1, f2, f3, f4, f5, f6⟩ := adv_facts _ (setL bs1 l l.length) mid (Nat.le_refl _) (setL_heap bs1 l l.length)
          intro y hy
          have hy2 := f6.mem_iff.1 (List.mem_append.2 (.inr (List.mem_map_of_mem (f := (·.2)) hy)))
          obtain ⟨z, hz, ez⟩ := List.mem_map.1 hy2
          have e2 : z.2 = y.2 := ez
          rw [← e2]
          exact setL_ids bs1 l l.length hl z hz
        have hlen3 : (advL (setL bs1 l l.length) mid).1.length + (advL (setL bs1 l l.length) mid).2.length = l.length := by
          obtain ⟨f, f1, f2, f3, f4, f5, f6⟩ := adv_facts _ (setL bs1 l l.length) mid (Nat.le_refl _) (setL_heap bs1 l l.length)
          have := f6.length_eq
          rw [List.length_append, List.length_map, List.length_map, setL_length] at this
          rw [f1, List.length_map]
          exact this
        have q2 := Aside0.mk (wadvance w3 b1 M1 k3 (advL (setL bs1 l l.length) mid).2 mid end_ _ _ v3 _ hw3 (by omega) (by omega) hids3)
        have H3 := Aside0.mk (And.intro hx (And.intro hf3 (And.intro F3 hlen3)))
        clear hx hf3 F3 hids3 hlen3 hw3 q1
        go_wp2_with (go_at_call 9; refine q2.out.mono ?_)
        rintro e w4 ⟨y, rfl, hy, v4, ⟨k4, D4, hw4⟩, hf4, F4⟩
        have l1 := HLT.out.1
        have l2 := HLT.out.2
        have S4 : ∀ u ∈ b1 :: M1 :: footOf v3 (advL (setL bs1 l l.length) mid).2, u ∈ b1 :: M1 :: footOf v1 (setL bs1 l l.length) := fun u hu => by
          rcases mem3.1 hu with e | e | e
          · exact mem3.2 (.inl e)
          · exact mem3.2 (.inr (.inl e))
          · exact mem3.2 (.inr (.inr (H3.out.2.1 u e)))
        have hw2 := (HW2.out.fr H3.out.2.2.1 (fun u hu h => HR.out.1 u h hu)).fr F4 (fun u hu h => HR.out.1 u (S4 u h) hu)
        have q3 := Aside0.mk (wadvance w4 b2 M2 l.length (setL bs2 l l.length) 0 end_ _ _ v2 _ hw2 (by rw [setL_length]; omega) (by omega) (setL_ids bs2 l l.length hl))
        have H4 := Aside0.mk (And.intro hy (And.intro hf4 (And.intro F4 (And.intro S4 hw4))))
        clear hy hf4 F4 S4 hw4 hw2 l1 l2 q2
        go_wp2_with (go_at_call 9; refine q3.out.mono ?_)
        rintro e w5 ⟨z, rfl, hz, v5, ⟨k5, D5, hw5⟩, hf5, F5⟩
        have H5 := Aside0.mk (And.intro hz (And.intro hf5 (And.intro F5 hw5)))
        clear hz hf5 F5 hw5 q3
        have S6 : ∀ u ∈ b1 :: M1 :: footOf v4 (advL (advL (setL bs1 l l.length) mid).2 end_).2, u ∈ b1 :: M1 :: footOf v1 (setL bs1 l l.length) := fun u hu => by
          rcases mem3.1 hu with e | e | e
          · exact mem3.2 (.inl e)
          · exact mem3.2 (.inr (.inl e))
          · exact H4.out.2.2.2.1 u (mem3.2 (.inr (.inr (H4.out.2.1 u e))))
        have q4 := Aside0.mk (wheelLen w5 b1 M1 k4 _ _ _ _ v4 D4 (H4.out.2.2.2.2.fr H5.out.2.2.1 (fun u hu h => HR.out.1 u (S6 u hu) h)))
        have q5 := Aside0.mk (wheelLen w5 b2 M2 k5 _ _ _ _ v5 D5 H5.out.2.2.2)
        have ht := setL_two bs1 bs2 l l.length mid end_ hlh
        rw [← ht.2] at q5
        have HT := Aside0.mk ht
        clear ht S6
        go_wp2_with (go_at_call 10; refine q4.out.mono ?_)
        rintro e w6 ⟨rfl, rfl⟩
        clear q4
        go_wp2_with (go_at_call 10; refine q5.out.mono ?_)
        rintro e w7 ⟨rfl, rfl⟩
        clear q5
        have l1 := HLT.out.1
        have l2 := HLT.out.2
        have z3 := H3.out.2.2.1.size
        have z4 := H4.out.2.2.1.size
        have z5 := H5.out.2.2.1.size
        have rx := (ownsRow_fr (ownsRow_fr H3.out.1 H4.out.2.2.1 (fun g hg h => by have := (H3.out.1.lt g hg).1; have := l1 g (H4.out.2.2.2.1 g h); omega)) H5.out.2.2.1 (fun g hg h => by have := (H3.out.1.lt g hg).1; have := l2 g h; omega))
        have ry := ownsRow_fr H4.out.1 H5.out.2.2.1 (fun g hg h => by have := (H4.out.1.lt g hg).1; have := l2 g h; omega)
        have rz := H5.out.1
        obtain ⟨X, eX⟩ : ∃ X, (advL (setL bs1 l l.length) mid).1 = X := ⟨_, rfl⟩
        obtain ⟨Y, eY⟩ : ∃ Y, (advL (advL (setL bs1 l l.length) mid).2 end_).1 = Y := ⟨_, rfl⟩
        obtain ⟨Z, eZ⟩ : ∃ Z, (advL (setL bs2 l l.length) end_).1 = Z := ⟨_, rfl⟩
        have hXYZ : X ++ Y = Z := by rw [← eX, ← eY, ← eZ]; exact HT.out.1
        have bX : X.length ≤ l.length := by have := H3.out.2.2.2; rw [eX] at this; omega
        have bY : Y.length ≤ l.length := by
          have h1 := adv_len (advL (setL bs1 l l.length) mid).2 end_ (adv_heap _ mid (setL_heap bs1 l l.length))
          have h2 := H3.out.2.2.2
          rw [eY] at h1
          omega
        rw [eX] at rx
        rw [eY] at ry
        rw [eZ] at rz
        have HX := Aside0.mk rx
        have HY := Aside0.mk ry
        have HZ := Aside0.mk rz
        have HXYZ := Aside0.mk hXYZ
        have HS := Aside0.mk (And.intro z3 (And.intro z4 z5))
        have own0 := Aside0.mk (show (w7.alloc (.cells #[] 3)).ownsRow w7.heap.size 3 1 (.slice (some ⟨w7.heap.size, 0, none⟩) 0 0) 0 (intsOf []) from World.ownsRow_lit (base := w7.heap.size) (e := 3) (size := 1) w7 #[] 0 (Nat.le_refl _) (by decide) (by simp))
        clear l1 l2 z3 z4 z5 rx ry rz hXYZ eX eY eZ
        go_wp2_with (at_builtin; refine wpList_appI rfl _ _ rfl _ w7.heap.size (.slice (some ⟨w7.heap.size, 0, none⟩) 0 0) 0 [] rfl own0.out wr.heap.size x X.length X rfl (HX.out.alloc _) (by omega) (by omega) (by simp only [World.size_alloc]; omega) ?_)
        intro v8 w8 o8 g8
        have o8' : w8.ownsRow w7.heap.size 3 1 v8 X.length (intsOf X) := by simpa using o8
        have HO8 := Aside0.mk o8'
        have HY8 := Aside0.mk ((HY.out.alloc (.cells #[] 3)).kept g8 (.inr (fun e => Nat.lt_irrefl _ (HY.out.lt w7.heap.size e).2)))
        have HZ8 := Aside0.mk ((HZ.out.alloc (.cells #[] 3)).kept g8 (.inr (fun e => Nat.lt_irrefl _ (HZ.out.lt w7.heap.size e).2)))
        have G8 := Aside0.mk g8
        have z8 := g8.size
        simp only [World.size_alloc] at z8
        clear o8 o8' g8
        go_wp2_with (at_builtin; refine wpList_appI rfl _ _ rfl _ w7.heap.size v8 X.length X rfl HO8.out w3.heap.size y Y.length Y rfl HY8.out (by omega) (by omega) (by omega) ?_)
        intro v9 w9 o9 g9
        have hz9 : w9.ownsRow w4.heap.size 3 1 z Z.length (intsOf Z) := HZ8.out.kept g9 (by
          cases e : z.ownBlock with
          | none => exact .inl rfl
          | some g => exact .inr (fun e2 => by
              have h1 := (HZ.out.lt g e).2
              have h2 := (HO8.out.lt g e2.symm).1
              omega))
        rw [HXYZ.out] at o9
        have bZ : Z.length < 4000000000000 := by rw [← HXYZ.out, List.length_append]; omega
        obtain ⟨q1, A9, c9, e9, i9⟩ := ints_of o9
        obtain ⟨q2, A10, c10, e10, i10⟩ := ints_of hz9
        have G9 := Aside0.mk g9
        have z9 := g9.size
        have hsame := Aside0.mk (sameInts w9 A9 A10 c9 c10 Z Z i9 i10 bZ bZ)
        have H9 := Aside0.mk (And.intro (below_of (Fr.ofGrown G8.out (S := [w7.heap.size]) (fun u hu => by simpa [Value.ownBlock] using hu.symm)) (B := w7.heap.size) (by simp only [World.size_alloc]; omega) (by simp)) (below_of (Fr.ofGrown G9.out (S := rowOf v8) (fun u hu => mem_rowOf.2 hu)) (B := w7.heap.size) (by omega) (fun u hu => (HO8.out.lt u (mem_rowOf.1 hu)).1)))
        clear o9 g9 hz9 q1 q2 i9 i10
        subst e9 e10
        go_wp2_with (go_at_call 11; refine hsame.out.mono ?_)
        rintro e w10 rfl F10 hh10
        have H10 := Aside0.mk F10
        clear F10 hh10 hsame
        go_wp2_with fail
        go_ret
        refine ⟨rfl, ?_⟩
        have l1 := HR.out.2.1
        have sb := HR.out.2.2.size
        have hs := HS.out
        have lo : ∀ (a b : World), Below w7.heap.size a b → Below w.heap.size a b := fun a b h => ⟨h.os, h.tape, h.output, h.size, fun k hk => h.block k (by omega)⟩
        have B3 := HR.out.2.2.trans (below_of H3.out.2.2.1 sb (fun u hu => l1 u (.inl hu)))
        have B4 := B3.trans (below_of H4.out.2.2.1 (by omega) (fun u hu => l1 u (.inl (H4.out.2.2.2.1 u hu))))
        have B5 := B4.trans (below_of H5.out.2.2.1 (by omega) (fun u hu => l1 u (.inr hu)))
        have B6 := B5.trans (below_of (Fr.alloc w7 (.cells #[] 3)) (by omega) (by simp))
        exact ((B6.trans (lo _ _ H9.out.1)).trans (lo _ _ H9.out.2)).trans (below_of H10.out (by omega) (by simp))
end Go.Proofs.Ytioaihimmmjhcaa.T
