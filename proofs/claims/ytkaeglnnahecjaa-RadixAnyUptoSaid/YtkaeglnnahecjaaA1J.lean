/- radix: RadixAny returns true, the walk. -/
import Derived.Test.YtkaeglnnahecjaaJd
import Derived.Test.YtkaeglnnahecjaaSb
import Derived.Test.YtkaeglnnahecjaaQb
import Derived.Lib.SlBytesRow
set_option linter.unusedVariables false
set_option linter.unusedSimpArgs false
namespace Go.Proofs.Ytkaeglnnahecjaa.A
open Go.RowKit Go.Lib Go.Proofs Go.Proofs.YtkaeglnnahecjaaW.PrintWords
open T (Strs ptr)

def tx (v : Int) : ByteArray := ⟨#[UInt8.ofNat (v % 256).toNat, UInt8.ofNat (v / 256 % 256).toNat]⟩
theorem byte_int (v : Int) : ((UInt8.ofNat (v % 256).toNat).toNat : Int) = v % 256 := by
  have h1 : 0 ≤ v % 256 := Int.emod_nonneg _ (by omega)
  have h2 : v % 256 < 256 := Int.emod_lt_of_pos _ (by omega)
  rw [UInt8.toNat_ofNat']
  omega
theorem conv_tx (w : World) (v : Int) (b : Nat) (h0 : w.cell? ⟨b, 0, none⟩ = some (.int .u8 (v % 256))) (h1 : w.cell? ⟨b, 1, none⟩ = some (.int .u8 (v / 256 % 256))) :
    (convert 33 9 (.slice (some ⟨b, 0, none⟩) 2 2)).run Try.prog w = .ok (.string (tx v)) w :=
  run_convert_whole (P := Try.prog) w 33 5 9 Try.underlying33 Try.underlying5 Try.underlying9 b 0 (tx v) (fun i hi => by
    have hs : (tx v).size = 2 := rfl
    rw [hs] at hi
    match i, hi with
    | 0, _ => rw [show 0 + 0 = 0 from rfl, h0]; exact congrArg (fun z => some (Value.int .u8 z)) (byte_int v).symm
    | 1, _ => rw [show 0 + 1 = 1 from rfl, h1]; exact congrArg (fun z => some (Value.int .u8 z)) (byte_int (v / 256)).symm) 2
abbrev sv : Nat → ByteArray → Value := fun i _ => .string (tx (i : Int))
abbrev pv : Nat → ByteArray → Value := fun i k => .agg #[.string (tx (i : Int)), .string k]
structure MadeS (w : World) (tb : Nat) (root : S.Nd) (ks : List ByteArray) (n : Nat) (size : Int) : Prop where
  at_ : S.TrAt w tb root size
  row : S.Row' sv ks n root size
structure MadeQ (w : World) (tb : Nat) (root : Q.Nd) (ks : List ByteArray) (n : Nat) (size : Int) : Prop where
  at_ : Q.TrAt w tb root size
  row : Q.Row' pv ks n root size
theorem MadeS.keep {w w' : World} {tb : Nat} {root : S.Nd} {ks : List ByteArray} {n : Nat} {size : Int} (h : MadeS w tb root ks n size) (k : S.Kept w w') : MadeS w' tb root ks n size := ⟨h.at_.keep k, h.row⟩
theorem MadeQ.keep {w w' : World} {tb : Nat} {root : Q.Nd} {ks : List ByteArray} {n : Nat} {size : Int} (h : MadeQ w tb root ks n size) (k : Q.Kept w w') : MadeQ w' tb root ks n size := ⟨h.at_.keep k, h.row⟩
theorem _root_.Go.Proofs.Ytkaeglnnahecjaa.T.Made.keep {w w' : World} {tb : Nat} {root : T.Nd} {ks : List ByteArray} {n : Nat} {size : Int} (h : T.Made w tb root ks n size) (k : T.Kept w w') : T.Made w' tb root ks n size := ⟨h.at_.keep k, h.row⟩
theorem belowTrans {w w1 w2 : World} (h : Below w.heap.size w w1) (h2 : Below w1.heap.size w1 w2) : Below w.heap.size w w2 :=
  h.trans ⟨h2.os, h2.tape, h2.output, h2.size, fun x hx => h2.block x (by have := h.size; omega)⟩
set_option maxHeartbeats 4000000 in
set_option maxRecDepth 100000 in
theorem any (hal : ∀ w : World, Calls Try.prog 11 #[] w fun e w' => e = .returned (.bool true) ∧ Below w.heap.size w w') (w : World) (A : Option Addr) (c : Nat) (ks : List ByteArray) (k : ByteArray) (hA : Strs w A ks) (hn : ks.length < 1000000000000) (hks : ∀ k ∈ ks, k.size < 4000000000000) (hk : k.size < 1000000000000) :
    Calls Try.prog 3 #[.slice A ks.length c, .string k] w fun e w' => e = .returned (.bool true) ∧ Below w.heap.size w w' := by
  have HA := Aside0.mk (And.intro hA hks)
  have q0 := Aside0.mk (hal w)
  clear hA hks hal
  go_enter Try.func3, Try.ntmps3
  go_wp2_with (go_at_call 11; refine q0.out.mono ?_)
  rintro e w1 ⟨rfl, B1⟩
  have q1 := Aside0.mk (T.builtRow w1 A c ks (HA.out.1.keep (T.Kept.of B1)) hn HA.out.2)
  have HB1 := Aside0.mk B1
  clear B1 q0
  go_wp2_with (go_at_call 12; refine q1.out.mono ?_)
  rintro e w2 ⟨tb, root, size, rfl, ht, B2⟩
  have HT := Aside0.mk ht
  have HB2 := Aside0.mk (HB1.out.trans ⟨B2.os, B2.tape, B2.output, B2.size, fun x hx => B2.block x (by have := HB1.out.size; omega)⟩)
  have q2 := Aside0.mk (S.treeNew w2)
  clear ht B2 q1
  unfold ptr
  go_wp2_with (go_at_call 13; refine q2.out.mono ?_)
  rintro e w3 ⟨tbS, bS, mS, rfl, hS, g1, g2, g3, B3⟩
  have HS := Aside0.mk (MadeS.mk hS (S.row_empty sv ks bS mS))
  have q3 := Aside0.mk (Q.treeNew w3)
  have HB3 := Aside0.mk B3
  clear hS B3 q2 g1 g2 g3
  unfold S.ptr
  go_wp2_with (go_at_call 14; refine q3.out.mono ?_)
  rintro e w4 ⟨tbQ, bQ, mQ, rfl, hQ, g1, g2, g3, B4⟩
  have HQ := Aside0.mk (MadeQ.mk hQ (Q.row_empty pv ks bQ mQ))
  have HB4 := Aside0.mk B4
  clear hQ B4 q3 g1 g2 g3
  unfold Q.ptr
  obtain ⟨n, en⟩ : ∃ n, ks.length = n := ⟨_, rfl⟩
  have HN := Aside0.mk en
  have HB0 := Aside0.mk (belowTrans HB3.out HB4.out)
  have HT0 := Aside0.mk (HT.out.keep (T.Kept.of HB0.out))
  have HSQ := Aside0.mk (And.intro (HS.out.keep (S.Kept.of HB4.out)) HQ.out)
  have HBw := Aside0.mk (belowTrans HB2.out HB0.out)
  clear HB3 HB4 HS HQ HB2 HB1 HT HB0
  rw [en] at hn ⊢
  clear en
  go_wp2_with fail
  go_loopg [6, 7, 29] (n + 1) (fun kq v6 v7 v29 w' => ∃ (i tbS tbQ : Nat) (rS : S.Nd) (rQ : Q.Nd) (sS sQ : Int), v6 = .pointer (some ⟨tbS, 0, none⟩) ∧ v7 = .pointer (some ⟨tbQ, 0, none⟩) ∧ v29 = .int .i64 (i : Int) ∧ Aside0 (i + kq = n + 1 ∧ i ≤ n) ∧ Aside0 (MadeS w' tbS rS ks i sS ∧ MadeQ w' tbQ rQ ks i sQ) ∧ Aside0 (Below w4.heap.size w4 w'))
  case atStart => exact ⟨0, tbS, tbQ, _, _, 0, 0, rfl, rfl, rfl, ⟨by omega⟩, ⟨HSQ.out⟩, ⟨Below.refl _ _⟩⟩
  case round =>
    obtain ⟨i, tbS, tbQ, rS, rQ, sS, sQ, rfl, rfl, rfl, HI, HM, HB⟩ := hrel
    by_cases hi : i < n
    · have hi' : i < ks.length := by rw [HN.out]; exact hi
      obtain ⟨ad, ea, ka⟩ := (HA.out.1.keep (T.Kept.of (belowTrans HBw.out HB.out))) i hi'
      obtain ⟨x, ex⟩ : ∃ x, ks[i] = x := ⟨_, rfl⟩
      rw [ex] at ka
      have hx : x.size < 4000000000000 := HA.out.2 x (by rw [← ex]; exact List.getElem_mem _)
      have HX := Aside0.mk (And.intro (show x = E.keyAt ks i by rw [T.keyAt_get hi']; exact ex.symm) hx)
      subst ea
      clear ex hi' hx
      have HI2 := Aside0.mk HI
      have hcv := conv_tx (wr.alloc (.cells #[.int .u8 ((i : Int) % 256), .int .u8 ((i : Int) / 256 % 256)] 5)) (i : Int) wr.heap.size (by rw [T.blk_cell (heap_alloc_new wr _)]; rfl) (by rw [T.blk_cell (heap_alloc_new wr _)]; rfl)
      have B5 := (Below.refl wr.heap.size wr).alloc (Nat.le_refl _) (.cells #[.int .u8 ((i : Int) % 256), .int .u8 ((i : Int) / 256 % 256)] 5)
      have hcr := T.cnt_range ks i
      have h1s := HM.out.1.row.size
      have h1q := HM.out.2.row.size
      have q5 := Aside0.mk (S.treeInsert (wr.alloc (.cells #[.int .u8 ((i : Int) % 256), .int .u8 ((i : Int) / 256 % 256)] 5)) tbS rS sS (tx (i : Int)) x (HM.out.1.at_.keep (S.Kept.of B5)) HM.out.1.row.good.ok HM.out.1.row.good.sm HX.out.2 (by omega) (by have := HI2.out.out; omega))
      have HM6 := Aside0.mk (fun w6 (h : Below (wr.alloc (.cells #[.int .u8 ((i : Int) % 256), .int .u8 ((i : Int) / 256 % 256)] 5)).heap.size (wr.alloc (.cells #[.int .u8 ((i : Int) % 256), .int .u8 ((i : Int) / 256 % 256)] 5)) w6) => HM.out.2.keep (Q.Kept.of (belowTrans B5 h)))
      have HB5 := Aside0.mk (And.intro B5 (And.intro hcr (And.intro h1s h1q)))
      clear B5 hcr h1s h1q
      unfold S.ptr at q5
      go_wp2_with (go_at_call 15; refine q5.out.mono ?_)
      rintro e w6 ⟨tbS2, lbS, mS2, nsS, hadS, oldS, rfl, htS, hoS, h1, h2, h3, h4, B6⟩
      have HB6 := Aside0.mk (And.intro B6 (belowTrans HB5.out.1 B6))
      have HS6 := Aside0.mk (MadeS.mk htS (S.row_ins HM.out.1.row x HX.out.1 HX.out.2 ⟨lbS, x, .string (tx (i : Int)), mS2⟩ rfl rfl nsS hadS oldS hoS))
      have q6 := Aside0.mk (Q.treeInsert w6 tbQ rQ sQ (tx (i : Int)) x x (HM6.out w6 B6).at_ HM.out.2.row.good.ok HM.out.2.row.good.sm HX.out.2 (by have := HB5.out.2; omega) (by have := HI2.out.out; have := HB5.out.2; omega))
      clear B6 htS hoS h1 h2 h3 h4 q5
      unfold Q.ptr at q6
      go_wp2_with (go_at_call 16; refine q6.out.mono ?_)
      rintro e w7 ⟨tbQ2, lbQ, mQ2, nsQ, hadQ, oldQ, rfl, htQ, hoQ, h1, h2, B7⟩
      have HB7 := Aside0.mk (belowTrans HB6.out.2 B7)
      have HQ7 := Aside0.mk (MadeQ.mk htQ (Q.row_ins HM.out.2.row x HX.out.1 HX.out.2 ⟨lbQ, x, .agg #[.string (tx (i : Int)), .string x], mQ2⟩ rfl rfl nsQ hadQ oldQ hoQ))
      have HS7 := Aside0.mk (HS6.out.keep (S.Kept.of B7))
      clear B7 htQ hoQ h1 h2 q6
      go_wp2_with fail
      go_roundg (n - i)
      case measure => have := HI2.out.out; omega
      case rel => exact ⟨i + 1, tbS2, tbQ2, _, _, _, _, rfl, rfl, by simp, ⟨by have := HI2.out.out; omega⟩, ⟨HS7.out, HQ7.out⟩, ⟨belowTrans HB.out HB7.out⟩⟩
    · have hin : i = n := by have := HI.out; omega
      subst hin
      have hTr := HT0.out.keep (T.Kept.of HB.out)
      rw [HN.out] at hTr
      have HT1 := Aside0.mk hTr
      have lt := T.row_long hTr.row k
      have ls := S.row_long HM.out.1.row k
      have lq := Q.row_long HM.out.2.row k
      have q1 := Aside0.mk (T.treeLongest wr tb root size k hTr.at_ hTr.row.good.ok hTr.row.good.sm hTr.row.good.top (by omega))
      have hB8 := belowTrans HBw.out HB.out
      have HB8 := Aside0.mk hB8
      have HS8 := Aside0.mk (fun w8 (h : Below wr.heap.size wr w8) => HM.out.1.keep (S.Kept.of h))
      have HQ8 := Aside0.mk (fun w8 (h : Below wr.heap.size wr w8) => HM.out.2.keep (Q.Kept.of h))
      have q2 := Aside0.mk (fun w8 (h : Below wr.heap.size wr w8) => S.treeLongest w8 tbS rS sS k (HS8.out w8 h).at_ HM.out.1.row.good.ok HM.out.1.row.good.sm HM.out.1.row.good.top (by omega))
      have q3 := Aside0.mk (fun w8 (h : Below wr.heap.size wr w8) => Q.treeLongest w8 tbQ rQ sQ k (HQ8.out w8 h).at_ HM.out.2.row.good.ok HM.out.2.row.good.sm HM.out.2.row.good.top (by omega))
      clear hTr hB8
      cases ho : E.long ks i (T.L k) (T.L k).length with
      | none =>
        have e1 : T.toldV (T.longN root k) = .tuple #[.string ⟨#[]⟩, .int .i64 0, .bool false] := by
          rw [ho] at lt
          rcases lt with ⟨_, h⟩ | ⟨_, _, h, _⟩
          · rw [h]; rfl
          · cases h
        have e2 : S.toldV (S.longN rS k) = .tuple #[.string ⟨#[]⟩, .string ⟨#[]⟩, .bool false] := by
          rw [show S.L k = T.L k from rfl, ho] at ls
          rcases ls with ⟨_, h⟩ | ⟨_, _, h, _⟩
          · rw [h]; rfl
          · cases h
        have e3 : Q.toldV (Q.longN rQ k) = .tuple #[.string ⟨#[]⟩, .agg #[.string ⟨#[]⟩, .string ⟨#[]⟩], .bool false] := by
          rw [show Q.L k = T.L k from rfl, ho] at lq
          rcases lq with ⟨_, h⟩ | ⟨_, _, h, _⟩
          · rw [h]; rfl
          · cases h
        rw [e1] at q1
        rw [e2] at q2
        rw [e3] at q3
        unfold T.ptr at q1
        unfold S.ptr at q2
        unfold Q.ptr at q3
        clear e1 e2 e3 lt ls lq ho
        go_wp2_with (go_at_call 17; refine q1.out.mono ?_)
        rintro e w8 ⟨rfl, B8⟩
        have q4 := Aside0.mk (q2.out w8 B8)
        have HB9 := Aside0.mk B8
        clear B8 q1 q2
        go_wp2_with (go_at_call 18; refine q4.out.mono ?_)
        rintro e w9 ⟨rfl, B9⟩
        have HB10 := Aside0.mk (belowTrans HB9.out B9)
        have q5 := Aside0.mk (q3.out w9 HB10.out)
        clear B9 q4 q3
        go_wp2_with (go_at_call 19; refine q5.out.mono ?_)
        rintro e w10 ⟨rfl, B10⟩
        have HB11 := Aside0.mk (belowTrans HB10.out B10)
        clear B10 q5
        go_wp2_with fail
        go_ret
        exact ⟨rfl, (belowTrans HB8.out HB11.out).alloc (by have := HB8.out.size; have := HB11.out.size; omega) _⟩
      | some j =>
        obtain ⟨y, ey⟩ : ∃ y, E.keyAt ks j = y := ⟨_, rfl⟩
        have e1 : T.toldV (T.longN root k) = .tuple #[.string y, .int .i64 (j : Int), .bool true] := by
          rw [ho] at lt
          rcases lt with ⟨h, _⟩ | ⟨_, l, h0, h, hk1, hk2⟩
          · cases h
          · cases h0
            rw [h]
            show Value.tuple #[.string l.key, l.val, .bool true] = _
            rw [hk1, hk2, ey]
        have e2 : S.toldV (S.longN rS k) = .tuple #[.string y, .string (tx (j : Int)), .bool true] := by
          rw [show S.L k = T.L k from rfl, ho] at ls
          rcases ls with ⟨h, _⟩ | ⟨_, l, h0, h, hk1, hk2⟩
          · cases h
          · cases h0
            rw [h]
            show Value.tuple #[.string l.key, l.val, .bool true] = _
            rw [hk1, hk2, ey]
        have e3 : Q.toldV (Q.longN rQ k) = .tuple #[.string y, .agg #[.string (tx (j : Int)), .string y], .bool true] := by
          rw [show Q.L k = T.L k from rfl, ho] at lq
          rcases lq with ⟨h, _⟩ | ⟨_, l, h0, h, hk1, hk2⟩
          · cases h
          · cases h0
            rw [h]
            show Value.tuple #[.string l.key, l.val, .bool true] = _
            rw [hk1, hk2, ey]
        rw [e1] at q1
        rw [e2] at q2
        rw [e3] at q3
        unfold T.ptr at q1
        unfold S.ptr at q2
        unfold Q.ptr at q3
        clear e1 e2 e3 lt ls lq ho ey
        go_wp2_with (go_at_call 17; refine q1.out.mono ?_)
        rintro e w8 ⟨rfl, B8⟩
        have q4 := Aside0.mk (q2.out w8 B8)
        have HB9 := Aside0.mk B8
        clear B8 q1 q2
        go_wp2_with (go_at_call 18; refine q4.out.mono ?_)
        rintro e w9 ⟨rfl, B9⟩
        have HB10 := Aside0.mk (belowTrans HB9.out B9)
        have q5 := Aside0.mk (q3.out w9 HB10.out)
        clear B9 q4 q3
        go_wp2_with (go_at_call 19; refine q5.out.mono ?_)
        rintro e w10 ⟨rfl, B10⟩
        have HB11 := Aside0.mk (belowTrans HB10.out B10)
        clear B10 q5
        have hcv := conv_tx ((w10.alloc (.cells #[.string (tx (j : Int)), .string y] 31)).alloc (.cells #[.int .u8 ((j : Int) % 256), .int .u8 ((j : Int) / 256 % 256)] 5)) (j : Int) (w10.heap.size + 1)
          (by have h := heap_alloc_new (w10.alloc (.cells #[.string (tx (j : Int)), .string y] 31)) (.cells #[.int .u8 ((j : Int) % 256), .int .u8 ((j : Int) / 256 % 256)] 5); rw [World.size_alloc] at h; rw [T.blk_cell h]; rfl)
          (by have h := heap_alloc_new (w10.alloc (.cells #[.string (tx (j : Int)), .string y] 31)) (.cells #[.int .u8 ((j : Int) % 256), .int .u8 ((j : Int) / 256 % 256)] 5); rw [World.size_alloc] at h; rw [T.blk_cell h]; rfl)
        have HB12 := Aside0.mk ((HB11.out.alloc (by have := HB11.out.size; omega) (.cells #[.string (tx (j : Int)), .string y] 31)).alloc (by have := HB11.out.size; simp only [World.size_alloc]; omega) (.cells #[.int .u8 ((j : Int) % 256), .int .u8 ((j : Int) / 256 % 256)] 5))
        obtain ⟨r, er⟩ : ∃ r, k.extract 0 (E.sreach (E.shOf ks i) k) = r := ⟨_, rfl⟩
        have q20 := Aside0.mk (fun w8 (h : Below wr.heap.size wr w8) => S.treeReach w8 tbS rS sS k (HS8.out w8 h).at_ HM.out.1.row.good.ok HM.out.1.row.good.sm HM.out.1.row.good.top (by omega))
        rw [S.row_reach HM.out.1.row k, er] at q20
        have q22 := Aside0.mk (fun w8 (h : Below wr.heap.size wr w8) => Q.treeReach w8 tbQ rQ sQ k (HQ8.out w8 h).at_ HM.out.2.row.good.ok HM.out.2.row.good.sm HM.out.2.row.good.top (by omega))
        rw [Q.row_reach HM.out.2.row k, er] at q22
        have q21 := Aside0.mk (fun w8 (h : Below wr.heap.size wr w8) => T.treeReach w8 tb root size k (HT1.out.keep (T.Kept.of h)).at_ HT1.out.row.good.ok HT1.out.row.good.sm HT1.out.row.good.top (by omega))
        rw [T.row_reach HT1.out.row k, er] at q21
        have q24 := Aside0.mk (fun w8 (h : Below wr.heap.size wr w8) => T.treeLen w8 tb root size (HT1.out.keep (T.Kept.of h)).at_)
        have q23 := Aside0.mk (fun w8 (h : Below wr.heap.size wr w8) => S.treeLen w8 tbS rS sS (HS8.out w8 h).at_)
        rw [HT1.out.row.size] at q24
        rw [HM.out.1.row.size] at q23
        unfold T.ptr at q21 q24
        unfold S.ptr at q20 q23
        unfold Q.ptr at q22
        clear er
        have p20 := Aside0.mk (q20.out _ HB12.out)
        go_wp2_with (go_at_call 20; refine p20.out.mono ?_)
        rintro e w11 ⟨rfl, _, B11⟩
        have HB13 := Aside0.mk (belowTrans HB12.out B11)
        have p21 := Aside0.mk (q21.out _ HB13.out)
        clear B11 p20 q20
        go_wp2_with (go_at_call 21; refine p21.out.mono ?_)
        rintro e w12 ⟨rfl, _, B12⟩
        have HB14 := Aside0.mk (belowTrans HB13.out B12)
        have p22 := Aside0.mk (q22.out _ HB14.out)
        clear B12 p21 q22
        go_wp2_with (go_at_call 22; refine p22.out.mono ?_)
        rintro e w13 ⟨rfl, _, B13⟩
        have HB15a := Aside0.mk (belowTrans HB14.out B13)
        have p21b := Aside0.mk (q21.out _ HB15a.out)
        clear B13 p22 q21
        go_wp2_with (go_at_call 21; refine p21b.out.mono ?_)
        rintro e w13b ⟨rfl, _, B13b⟩
        have HB15 := Aside0.mk (belowTrans HB15a.out B13b)
        have p23 := Aside0.mk (q23.out _ HB15.out)
        have p24 := Aside0.mk (q24.out _ HB15.out)
        clear B13b p21b q23 q24
        go_wp2_with (first | (go_at_call 23; refine p23.out.mono ?_; rintro e w14 ⟨rfl, rfl⟩) | (go_at_call 24; refine p24.out.mono ?_; rintro e w15 ⟨rfl, rfl⟩))
        go_ret
        exact ⟨rfl, belowTrans HB8.out HB15.out⟩
end Go.Proofs.Ytkaeglnnahecjaa.A
