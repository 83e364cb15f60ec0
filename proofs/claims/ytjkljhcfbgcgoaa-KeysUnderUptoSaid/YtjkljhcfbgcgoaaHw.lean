/- keys.write, walked: a part's piece goes into the builder. -/
import Derived.Test.YtjkljhcfbgcgoaaBd
import Derived.Lib.Hide
import Derived.Deep.LoopGhost
import Derived.WalkSpells
import Derived.Lib.EndianBits
import Derived.Laws.Bits64
namespace Go.Proofs.Ytjkljhcfbgcgoaa.Hw
open Go.RowKit Go.Proofs.YtjkljhcfbgcgoaaW.PrintWords Go.Proofs.YtjkljhcfbgcgoaaW.PrintLast Go.Proofs.YtjkljhcfbgcgoaaW.PrintMore
open Go.Proofs.Ytjkljhcfbgcgoaa.Bd
set_option linter.unusedVariables false
set_option linter.unusedSimpArgs false

def escI : List UInt8 → List Int
  | [] => []
  | b :: bs => (if b = 0 then [0, 255] else [(b.toNat : Int)]) ++ escI bs
theorem escI_snoc (l : List UInt8) (b : UInt8) : escI (l ++ [b]) = escI l ++ (if b = 0 then [0, 255] else [(b.toNat : Int)]) := by
  induction l with
  | nil => simp [escI]
  | cons x l ih => simp [escI, ih]
theorem escI_take_le (l : List UInt8) (k : Nat) : (escI (l.take k)).length ≤ (escI l).length := by
  induction l generalizing k with
  | nil => simp [escI]
  | cons x l ih =>
    cases k with
    | zero => simp [escI]
    | succ k => simp only [List.take_succ_cons, escI, List.length_append]; have := ih k; omega

theorem take_snoc (s : ByteArray) (k : Nat) (h : k < s.size) : s.data.toList.take (k + 1) = s.data.toList.take k ++ [s[k]] := by
  rw [List.take_succ_eq_append_getElem (by simpa using h)]; rfl

theorem alloc_at (w : World) (o : Obj) : (w.alloc o).heap[w.heap.size]? = some o := by
  show (w.heap.push o)[w.heap.size]? = some o
  simp
/-- what the box of a part gives -/
def Box (x : Nat) (p0 : Int) (p1 : ByteArray) (p2 : Int) (w : World) : Prop := w.heap[x]? = some (.cells #[.int .i64 p0, .string p1, .int .u64 p2] 36 (0, 0))
theorem Box.kp {B b x : Nat} {p0 p2 : Int} {p1 : ByteArray} {w w' : World} (h : Box x p0 p1 p2 w) (k : Kp B b w w') (hx : x ≠ b) : Box x p0 p1 p2 w' := k.block h hx (by decide)
theorem Box.c0 {x : Nat} {p0 p2 : Int} {p1 : ByteArray} {w : World} (h : Box x p0 p1 p2 w) : w.cell? ⟨x, 0, none⟩ = some (.int .i64 p0) := by rw [Lib.cell_of_heap h]; rfl
theorem Box.c1 {x : Nat} {p0 p2 : Int} {p1 : ByteArray} {w : World} (h : Box x p0 p1 p2 w) : w.cell? ⟨x, 1, none⟩ = some (.string p1) := by rw [Lib.cell_of_heap h]; rfl
theorem Box.c2 {x : Nat} {p0 p2 : Int} {p1 : ByteArray} {w : World} (h : Box x p0 p1 p2 w) : w.cell? ⟨x, 2, none⟩ = some (.int .u64 p2) := by rw [Lib.cell_of_heap h]; rfl

set_option maxHeartbeats 1000000 in
set_option maxRecDepth 100000 in
theorem write_flag (B b : Nat) (xs : List Int) (p1 : ByteArray) (p2 : Int) (op : Bool) (w : World) (h : Bld B b xs w) (hl : xs.length + 2 ≤ 140737488355328) :
    Calls Try.prog 37 #[.pointer (some ⟨b, 0, none⟩), .agg #[.int .i64 3, .string p1, .int .u64 p2], .bool op] w fun e w' => e = .returned (.tuple #[]) ∧ Bld B b (xs ++ [3, p2 % 256]) w' ∧ Kp B b w w' := by
  have hu := Try.underlying36
  have H := Aside0.mk h
  have hlt := Aside0.mk h.lt
  have hge := Aside0.mk h.ge
  clear h
  go_enter Try.func37, Try.ntmps37
  go_wp2_with fail
  generalize hw1 : w.alloc (.cells #[.int .i64 3, .string p1, .int .u64 p2] 36) = w1
  have HX : Aside0 (Box w.heap.size 3 p1 p2 w1) := ⟨by rw [← hw1]; exact alloc_at _ _⟩
  have H1 : Aside0 (Bld B b xs w1) := ⟨by rw [← hw1]; exact H.out.alloc _⟩
  have K1 : Aside0 (Kp B b w w1) := ⟨by rw [← hw1]; exact (Kp.refl B b w).alloc (by have := hlt.out; have := hge.out; omega) _⟩
  clear hw1
  refine (wbyte B b xs 3 w1 H1.out (by omega)).mono ?_
  rintro e w2 ⟨rfl, h2, k2⟩
  have hne : w.heap.size ≠ b := by have := hlt.out; omega
  have HX2 := Aside0.mk (HX.out.kp k2 hne)
  have H2 := Aside0.mk h2
  have K2 := Aside0.mk (K1.out.trans k2)
  clear h2 k2 HX H1 K1
  have c0 := HX2.out.c0
  have c2 := HX2.out.c2
  go_wp2_with fail
  refine (wbyte B b _ (p2 % 256) w2 H2.out (by simp; omega)).mono ?_
  rintro e w3 ⟨rfl, h3, k3⟩
  go_wp2
  go_end0
  exact ⟨rfl, by simpa using h3, K2.out.trans k3⟩

def beB (n : Int) (j : Nat) : Int := n / 2 ^ (56 - 8 * j) % 256
def be (n : Int) (j : Nat) : List Int := (List.range j).map (beB n)
theorem be_length (n : Int) (j : Nat) : (be n j).length = j := by simp [be]
theorem be_succ (n : Int) (j : Nat) : be n (j + 1) = be n j ++ [beB n j] := by simp [be, List.range_succ]

set_option maxHeartbeats 2000000 in
set_option maxRecDepth 100000 in
theorem write_num (B b : Nat) (xs : List Int) (p1 : ByteArray) (p2 : Int) (op : Bool) (w : World) (h : Bld B b xs w) (hl : xs.length + 9 ≤ 140737488355328) :
    Calls Try.prog 37 #[.pointer (some ⟨b, 0, none⟩), .agg #[.int .i64 2, .string p1, .int .u64 p2], .bool op] w fun e w' => e = .returned (.tuple #[]) ∧ Bld B b (xs ++ [2] ++ be p2 8) w' ∧ Kp B b w w' := by
  have hu := Try.underlying36
  have H := Aside0.mk h
  have hlt := Aside0.mk h.lt
  have hge := Aside0.mk h.ge
  clear h
  go_enter Try.func37, Try.ntmps37
  go_wp2_with fail
  generalize hw1 : w.alloc (.cells #[.int .i64 2, .string p1, .int .u64 p2] 36) = w1
  have HX : Aside0 (Box w.heap.size 2 p1 p2 w1) := ⟨by rw [← hw1]; exact alloc_at _ _⟩
  have H1 : Aside0 (Bld B b xs w1) := ⟨by rw [← hw1]; exact H.out.alloc _⟩
  have K1 : Aside0 (Kp B b w w1) := ⟨by rw [← hw1]; exact (Kp.refl B b w).alloc (by have := hlt.out; have := hge.out; omega) _⟩
  clear hw1
  refine (wbyte B b xs 2 w1 H1.out (by omega)).mono ?_
  rintro e w2 ⟨rfl, h2, k2⟩
  have hne := Aside0.mk (show w.heap.size ≠ b by have := hlt.out; omega)
  have HX2 := Aside0.mk (HX.out.kp k2 hne.out)
  have H2 := Aside0.mk h2
  have K2 := Aside0.mk (K1.out.trans k2)
  clear h2 k2 HX H1 K1
  have c0 := HX2.out.c0
  go_wp2_with fail
  clear c0
  go_loopg [7] 9 (fun kq v7 w' => ∃ j : Nat, v7 = .int .i64 (56 - 8 * j) ∧ Aside0 (j + kq = 9 ∧ j ≤ 8) ∧ Aside0 (Box w.heap.size 2 p1 p2 w') ∧ Aside0 (Bld B b (xs ++ [2] ++ be p2 j) w') ∧ Aside0 (Kp B b w w'))
  case atStart => exact ⟨0, rfl, ⟨by omega⟩, HX2, ⟨by simpa [be] using H2.out⟩, K2⟩
  case round =>
    clear H2 K2 HX2 H
    obtain ⟨j, rfl, HJ, HX, HB, HK⟩ := hrel
    have hj : j = 0 ∨ j = 1 ∨ j = 2 ∨ j = 3 ∨ j = 4 ∨ j = 5 ∨ j = 6 ∨ j = 7 ∨ j = 8 := by have := HJ.out; omega
    rcases hj with rfl | rfl | rfl | rfl | rfl | rfl | rfl | rfl | rfl
    · have c2 := HX.out.c2
      have hb : beB p2 0 = p2 / 72057594037927936 % 256 := by simp [beB]
      go_wp2_with fail
      refine (wbyte B b _ (p2 / 72057594037927936 % 256) wr HB.out (by rw [List.length_append, List.length_append, be_length]; simp only [List.length_cons, List.length_nil]; omega)).mono ?_
      rintro e w3 ⟨rfl, h3, k3⟩
      have HX3 := Aside0.mk (HX.out.kp k3 hne.out)
      have HB3 : Aside0 (Bld B b (xs ++ [2] ++ be p2 1) w3) := ⟨by rw [be_succ, hb, ← List.append_assoc]; exact h3⟩
      have HK3 := Aside0.mk (HK.out.trans k3)
      clear hb h3 k3 HX HB HK c2
      go_wp2
      go_roundg 8
      case measure => have := HJ.out; omega
      case rel => exact ⟨1, by simp, ⟨by have := HJ.out; omega⟩, HX3, HB3, HK3⟩
    · have c2 := HX.out.c2
      have hb : beB p2 1 = p2 / 281474976710656 % 256 := by simp [beB]
      go_wp2_with fail
      refine (wbyte B b _ (p2 / 281474976710656 % 256) wr HB.out (by rw [List.length_append, List.length_append, be_length]; simp only [List.length_cons, List.length_nil]; omega)).mono ?_
      rintro e w3 ⟨rfl, h3, k3⟩
      have HX3 := Aside0.mk (HX.out.kp k3 hne.out)
      have HB3 : Aside0 (Bld B b (xs ++ [2] ++ be p2 2) w3) := ⟨by rw [be_succ, hb, ← List.append_assoc]; exact h3⟩
      have HK3 := Aside0.mk (HK.out.trans k3)
      clear hb h3 k3 HX HB HK c2
      go_wp2
      go_roundg 7
      case measure => have := HJ.out; omega
      case rel => exact ⟨2, by simp, ⟨by have := HJ.out; omega⟩, HX3, HB3, HK3⟩
    · have c2 := HX.out.c2
      have hb : beB p2 2 = p2 / 1099511627776 % 256 := by simp [beB]
      go_wp2_with fail
      refine (wbyte B b _ (p2 / 1099511627776 % 256) wr HB.out (by rw [List.length_append, List.length_append, be_length]; simp only [List.length_cons, List.length_nil]; omega)).mono ?_
      rintro e w3 ⟨rfl, h3, k3⟩
      have HX3 := Aside0.mk (HX.out.kp k3 hne.out)
      have HB3 : Aside0 (Bld B b (xs ++ [2] ++ be p2 3) w3) := ⟨by rw [be_succ, hb, ← List.append_assoc]; exact h3⟩
      have HK3 := Aside0.mk (HK.out.trans k3)
      clear hb h3 k3 HX HB HK c2
      go_wp2
      go_roundg 6
      case measure => have := HJ.out; omega
      case rel => exact ⟨3, by simp, ⟨by have := HJ.out; omega⟩, HX3, HB3, HK3⟩
    · have c2 := HX.out.c2
      have hb : beB p2 3 = p2 / 4294967296 % 256 := by simp [beB]
      go_wp2_with fail
      refine (wbyte B b _ (p2 / 4294967296 % 256) wr HB.out (by rw [List.length_append, List.length_append, be_length]; simp only [List.length_cons, List.length_nil]; omega)).mono ?_
      rintro e w3 ⟨rfl, h3, k3⟩
      have HX3 := Aside0.mk (HX.out.kp k3 hne.out)
      have HB3 : Aside0 (Bld B b (xs ++ [2] ++ be p2 4) w3) := ⟨by rw [be_succ, hb, ← List.append_assoc]; exact h3⟩
      have HK3 := Aside0.mk (HK.out.trans k3)
      clear hb h3 k3 HX HB HK c2
      go_wp2
      go_roundg 5
      case measure => have := HJ.out; omega
      case rel => exact ⟨4, by simp, ⟨by have := HJ.out; omega⟩, HX3, HB3, HK3⟩
    · have c2 := HX.out.c2
      have hb : beB p2 4 = p2 / 16777216 % 256 := by simp [beB]
      go_wp2_with fail
      refine (wbyte B b _ (p2 / 16777216 % 256) wr HB.out (by rw [List.length_append, List.length_append, be_length]; simp only [List.length_cons, List.length_nil]; omega)).mono ?_
      rintro e w3 ⟨rfl, h3, k3⟩
      have HX3 := Aside0.mk (HX.out.kp k3 hne.out)
      have HB3 : Aside0 (Bld B b (xs ++ [2] ++ be p2 5) w3) := ⟨by rw [be_succ, hb, ← List.append_assoc]; exact h3⟩
      have HK3 := Aside0.mk (HK.out.trans k3)
      clear hb h3 k3 HX HB HK c2
      go_wp2
      go_roundg 4
      case measure => have := HJ.out; omega
      case rel => exact ⟨5, by simp, ⟨by have := HJ.out; omega⟩, HX3, HB3, HK3⟩
    · have c2 := HX.out.c2
      have hb : beB p2 5 = p2 / 65536 % 256 := by simp [beB]
      go_wp2_with fail
      refine (wbyte B b _ (p2 / 65536 % 256) wr HB.out (by rw [List.length_append, List.length_append, be_length]; simp only [List.length_cons, List.length_nil]; omega)).mono ?_
      rintro e w3 ⟨rfl, h3, k3⟩
      have HX3 := Aside0.mk (HX.out.kp k3 hne.out)
      have HB3 : Aside0 (Bld B b (xs ++ [2] ++ be p2 6) w3) := ⟨by rw [be_succ, hb, ← List.append_assoc]; exact h3⟩
      have HK3 := Aside0.mk (HK.out.trans k3)
      clear hb h3 k3 HX HB HK c2
      go_wp2
      go_roundg 3
      case measure => have := HJ.out; omega
      case rel => exact ⟨6, by simp, ⟨by have := HJ.out; omega⟩, HX3, HB3, HK3⟩
    · have c2 := HX.out.c2
      have hb : beB p2 6 = p2 / 256 % 256 := by simp [beB]
      go_wp2_with fail
      refine (wbyte B b _ (p2 / 256 % 256) wr HB.out (by rw [List.length_append, List.length_append, be_length]; simp only [List.length_cons, List.length_nil]; omega)).mono ?_
      rintro e w3 ⟨rfl, h3, k3⟩
      have HX3 := Aside0.mk (HX.out.kp k3 hne.out)
      have HB3 : Aside0 (Bld B b (xs ++ [2] ++ be p2 7) w3) := ⟨by rw [be_succ, hb, ← List.append_assoc]; exact h3⟩
      have HK3 := Aside0.mk (HK.out.trans k3)
      clear hb h3 k3 HX HB HK c2
      go_wp2
      go_roundg 2
      case measure => have := HJ.out; omega
      case rel => exact ⟨7, by simp, ⟨by have := HJ.out; omega⟩, HX3, HB3, HK3⟩
    · have c2 := HX.out.c2
      have hb : beB p2 7 = p2 % 256 := by simp [beB]
      go_wp2_with fail
      refine (wbyte B b _ (p2 % 256) wr HB.out (by rw [List.length_append, List.length_append, be_length]; simp only [List.length_cons, List.length_nil]; omega)).mono ?_
      rintro e w3 ⟨rfl, h3, k3⟩
      have HX3 := Aside0.mk (HX.out.kp k3 hne.out)
      have HB3 : Aside0 (Bld B b (xs ++ [2] ++ be p2 8) w3) := ⟨by rw [be_succ, hb, ← List.append_assoc]; exact h3⟩
      have HK3 := Aside0.mk (HK.out.trans k3)
      clear hb h3 k3 HX HB HK c2
      go_wp2
      go_roundg 1
      case measure => have := HJ.out; omega
      case rel => exact ⟨8, by simp, ⟨by have := HJ.out; omega⟩, HX3, HB3, HK3⟩
    · go_wp2
      go_end0
      exact ⟨rfl, HB.out, HK.out⟩

set_option maxHeartbeats 2000000 in
set_option maxRecDepth 100000 in
theorem write_text (B b : Nat) (xs : List Int) (p1 : ByteArray) (p2 : Int) (op : Bool) (w : World) (h : Bld B b xs w) (hl : xs.length + 3 + (escI p1.data.toList).length ≤ 140737488355328) (hs : p1.size ≤ 140737488355328) :
    Calls Try.prog 37 #[.pointer (some ⟨b, 0, none⟩), .agg #[.int .i64 1, .string p1, .int .u64 p2], .bool op] w fun e w' => e = .returned (.tuple #[]) ∧ Bld B b (xs ++ [1] ++ escI p1.data.toList ++ (if op then [] else [0, 1])) w' ∧ Kp B b w w' := by
  have hu := Try.underlying36
  have H := Aside0.mk h
  have hlt := Aside0.mk h.lt
  have hge := Aside0.mk h.ge
  clear h
  go_enter Try.func37, Try.ntmps37
  go_wp2_with fail
  generalize hw1 : w.alloc (.cells #[.int .i64 1, .string p1, .int .u64 p2] 36) = w1
  have HX : Aside0 (Box w.heap.size 1 p1 p2 w1) := ⟨by rw [← hw1]; exact alloc_at _ _⟩
  have H1 : Aside0 (Bld B b xs w1) := ⟨by rw [← hw1]; exact H.out.alloc _⟩
  have K1 : Aside0 (Kp B b w w1) := ⟨by rw [← hw1]; exact (Kp.refl B b w).alloc (by have := hlt.out; have := hge.out; omega) _⟩
  clear hw1
  refine (wbyte B b xs 1 w1 H1.out (by omega)).mono ?_
  rintro e w2 ⟨rfl, h2, k2⟩
  have hne := Aside0.mk (show w.heap.size ≠ b by have := hlt.out; omega)
  have HX2 := Aside0.mk (HX.out.kp k2 hne.out)
  have H2 := Aside0.mk h2
  have K2 := Aside0.mk (K1.out.trans k2)
  clear h2 k2 HX H1 K1
  have c0 := HX2.out.c0
  have c1 := HX2.out.c1
  go_wp2_with fail
  clear c0 c1
  go_loopg [20] p1.size (fun kq v20 w' => ∃ k : Nat, v20 = .int .i64 k ∧ Aside0 (k + kq = p1.size) ∧ Aside0 (Box w.heap.size 1 p1 p2 w') ∧ Aside0 (Bld B b (xs ++ [1] ++ escI (p1.data.toList.take k)) w') ∧ Aside0 (Kp B b w w'))
  case atStart => exact ⟨0, rfl, ⟨by omega⟩, HX2, ⟨by simpa [escI] using H2.out⟩, K2⟩
  case round =>
    clear H2 K2 HX2 H
    obtain ⟨k, rfl, HJ, HX, HB, HK⟩ := hrel
    have hle := Aside0.mk (escI_take_le p1.data.toList k)
    by_cases hk : k < p1.size
    · have c1 := HX.out.c1
      have HS := Aside0.mk (escI_snoc (p1.data.toList.take k) p1[k])
      have HT := Aside0.mk (take_snoc p1 k hk)
      have HLE := Aside0.mk (escI_take_le p1.data.toList (k + 1))
      by_cases hz : p1[k] = 0
      · have HZ := Aside0.mk hz
        have hb : ((p1[k].toNat : Int) == 0) = true := by rw [hz]; rfl
        clear hz
        go_wp2_with fail
        refine (wbyte B b _ _ wr HB.out (by rw [List.length_append, List.length_append]; simp only [List.length_cons, List.length_nil]; have := hle.out; omega)).mono ?_
        rintro e w3 ⟨rfl, h3, k3⟩
        have HX3 := Aside0.mk (HX.out.kp k3 hne.out)
        have HB3 := Aside0.mk h3
        have HK3 := Aside0.mk (HK.out.trans k3)
        clear h3 k3 HX HB HK c1
        have c1 := HX3.out.c1
        go_wp2_with fail
        refine (wbyte B b _ 255 w3 HB3.out (by rw [List.length_append, List.length_append, List.length_append]; simp only [List.length_cons, List.length_nil]; have := hle.out; omega)).mono ?_
        rintro e w4 ⟨rfl, h4, k4⟩
        have HX4 := Aside0.mk (HX3.out.kp k4 hne.out)
        have HK4 := Aside0.mk (HK3.out.trans k4)
        have HB4 : Aside0 (Bld B b (xs ++ [1] ++ escI (p1.data.toList.take (k + 1))) w4) := ⟨by
          rw [HT.out, HS.out, if_pos HZ.out]
          have e0 : ((p1[k].toNat : Int)) = 0 := by rw [HZ.out]; rfl
          rw [e0] at h4
          simpa using h4⟩
        clear h4 k4 HX3 HB3 HK3 c1 hb
        go_wp2
        go_roundg (gk - 1)
        case measure => have := HJ.out; omega
        case rel => exact ⟨k + 1, by simp, ⟨by have := HJ.out; omega⟩, HX4, HB4, HK4⟩
      · have HZ := Aside0.mk hz
        have hb : ((p1[k].toNat : Int) == 0) = false := by
          rw [beq_eq_false_iff_ne]
          intro h
          apply hz
          apply UInt8.toNat_inj.1
          simpa using h
        clear hz
        go_wp2_with fail
        refine (wbyte B b _ _ wr HB.out (by rw [List.length_append, List.length_append]; simp only [List.length_cons, List.length_nil]; have := hle.out; omega)).mono ?_
        rintro e w3 ⟨rfl, h3, k3⟩
        have HX3 := Aside0.mk (HX.out.kp k3 hne.out)
        have HB3 := Aside0.mk h3
        have HK3 := Aside0.mk (HK.out.trans k3)
        clear h3 k3 HX HB HK c1
        have c1 := HX3.out.c1
        have HB4 : Aside0 (Bld B b (xs ++ [1] ++ escI (p1.data.toList.take (k + 1))) w3) := ⟨by
          rw [HT.out, HS.out, if_neg HZ.out]
          simpa using HB3.out⟩
        clear HB3
        go_wp2
        go_roundg (gk - 1)
        case measure => have := HJ.out; omega
        case rel => exact ⟨k + 1, by simp, ⟨by have := HJ.out; omega⟩, HX3, HB4, HK3⟩
    · have hkk : k = p1.size := by have := HJ.out; omega
      subst hkk
      have HB' : Aside0 (Bld B b (xs ++ [1] ++ escI p1.data.toList) wr) := ⟨by have := HB.out; rw [List.take_of_length_le (by simp)] at this; exact this⟩
      clear HB
      cases op with
      | true =>
        go_wp2_with fail
        go_end0
        exact ⟨rfl, by simpa using HB'.out, HK.out⟩
      | false =>
        go_wp2_with fail
        refine (wstr B b _ _ wr HB'.out (by rw [List.length_append, List.length_append]; simp only [List.length_cons, List.length_nil]; show _ + 2 ≤ _; omega)).mono ?_
        rintro e w3 ⟨rfl, h3, k3⟩
        go_wp2
        go_end0
        exact ⟨rfl, by simpa [bytesOf] using h3, HK.out.trans k3⟩

theorem escI_length_ge (l : List UInt8) : l.length ≤ (escI l).length := by
  induction l with
  | nil => simp [escI]
  | cons x l ih => simp only [escI, List.length_append, List.length_cons]; split <;> simp <;> omega

/-- a part's piece -/
def kpc (p0 : Int) (p1 : ByteArray) (p2 : Int) (op : Bool) : List Int :=
  if p0 = 1 then [1] ++ escI p1.data.toList ++ (if op then [] else [0, 1]) else if p0 = 2 then [2] ++ be p2 8 else [3, p2 % 256]

theorem write_any (B b : Nat) (xs : List Int) (p0 : Int) (p1 : ByteArray) (p2 : Int) (op : Bool) (w : World) (h : Bld B b xs w) (hp : p0 = 1 ∨ p0 = 2 ∨ p0 = 3) (hl : xs.length + (kpc p0 p1 p2 op).length + 2 ≤ 140737488355328) :
    Calls Try.prog 37 #[.pointer (some ⟨b, 0, none⟩), .agg #[.int .i64 p0, .string p1, .int .u64 p2], .bool op] w fun e w' => e = .returned (.tuple #[]) ∧ Bld B b (xs ++ kpc p0 p1 p2 op) w' ∧ Kp B b w w' := by
  rcases hp with rfl | rfl | rfl
  · have e : kpc 1 p1 p2 op = [1] ++ escI p1.data.toList ++ (if op then [] else [0, 1]) := by simp [kpc]
    rw [e] at hl ⊢
    simp only [List.length_append, List.length_cons, List.length_nil] at hl
    have := escI_length_ge p1.data.toList
    refine (write_text B b xs p1 p2 op w h (by omega) (by rw [Array.length_toList] at this; show p1.data.size ≤ _; omega)).mono ?_
    rintro e w' ⟨he, h1, h2⟩
    exact ⟨he, by simpa only [List.append_assoc] using h1, h2⟩
  · have e : kpc 2 p1 p2 op = [2] ++ be p2 8 := by simp [kpc]
    rw [e] at hl ⊢
    simp only [List.length_append, List.length_cons, List.length_nil, be_length] at hl
    refine (write_num B b xs p1 p2 op w h (by omega)).mono ?_
    rintro e w' ⟨he, h1, h2⟩
    exact ⟨he, by simpa only [List.append_assoc] using h1, h2⟩
  · have e : kpc 3 p1 p2 op = [3, p2 % 256] := by simp [kpc]
    rw [e] at hl ⊢
    simp only [List.length_cons, List.length_nil] at hl
    exact write_flag B b xs p1 p2 op w h (by omega)

theorem escI_range (l : List UInt8) : ∀ x ∈ escI l, 0 ≤ x ∧ x ≤ 255 := by
  induction l with
  | nil => simp [escI]
  | cons y l ih =>
    intro x hx
    simp only [escI, List.mem_append] at hx
    rcases hx with hx | hx
    · split at hx
      · simp at hx; omega
      · simp at hx; have := y.toNat_lt; omega
    · exact ih x hx
theorem kpc_range (p0 : Int) (p1 : ByteArray) (p2 : Int) (op : Bool) : ∀ x ∈ kpc p0 p1 p2 op, 0 ≤ x ∧ x ≤ 255 := by
  intro x hx
  unfold kpc at hx
  split at hx
  · simp only [List.mem_append] at hx
    rcases hx with (hx | hx) | hx
    · simp at hx; omega
    · exact escI_range _ x hx
    · split at hx <;> simp at hx; omega
  · split at hx
    · simp only [List.mem_append] at hx
      rcases hx with hx | hx
      · simp at hx; omega
      · simp only [be, List.mem_map] at hx
        obtain ⟨j, _, rfl⟩ := hx
        unfold beB; omega
    · simp at hx; omega
end Go.Proofs.Ytjkljhcfbgcgoaa.Hw
