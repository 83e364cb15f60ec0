-- Written by a program of this session (wip/tools/printfam.py) out of the translation; hand-proved contracts set in; joined by wip/tools/merge.py. Lean checks it.
import Derived.Test.YtjkljhcfbgcgoaaM0
section
namespace Go.Proofs.Ytjkljhcfbgcgoaa.K
open Go.RowKit Go.Proofs.YtjkljhcfbgcgoaaW.PrintWords Go.Proofs.YtjkljhcfbgcgoaaW.PrintLast Go.Proofs.YtjkljhcfbgcgoaaW.PrintMore
attribute [local go_sem] max2_int min2_int max_two min_two max_three min_three max_four min_four   -- for this text's walks alone
set_option linter.unusedVariables false
set_option linter.unusedSimpArgs false

/-! ### keys_piece: function 35 -/
-- HAND
def scanL : List UInt8 → Option (List Int × Nat)
  | [] => none
  | x :: l => match l with
    | [] => none
    | y :: r => if x ≠ 0 then (scanL (y :: r)).map (fun t => ((x.toNat : Int) :: t.1, t.2 + 1)) else if y = 255 then (scanL r).map (fun t => ((0 : Int) :: t.1, t.2 + 2)) else if y = 1 then some ([], 2) else none
def num8 (l : List UInt8) : Int := l.foldl (fun n b => n * 256 + (b.toNat : Int)) 0
def pieceL : List UInt8 → Option (Int × ByteArray × Int × Int)
  | [] => none
  | c :: r =>
    if c = 1 then (match scanL r with | some t => some (1, strOfNums t.1, 0, (t.2 : Int) + 1) | none => some (1, ⟨#[]⟩, 0, 0))
    else if c = 2 then (if 8 ≤ r.length then some (2, ⟨#[]⟩, num8 (r.take 8), 9) else some (2, ⟨#[]⟩, 0, 0))
    else if c = 3 then (match r with | d :: _ => (if d < 2 then some (3, ⟨#[]⟩, (d.toNat : Int), 2) else some (3, ⟨#[]⟩, 0, 0)) | [] => some (3, ⟨#[]⟩, 0, 0))
    else some ((c.toNat : Int), ⟨#[]⟩, 0, 0)
def keys_piece.f (a0 : ByteArray) : Option (Int × ByteArray × Int × Int) := if a0.size ≤ 4096 then pieceL a0.data.toList else none

theorem head_of (s : ByteArray) (c : UInt8) (r : List UInt8) (hs : s.data.toList = c :: r) : ∃ h : 0 < s.size, s[0] = c := by
  have hlt : 0 < s.size := by show 0 < s.data.size; rw [← Array.length_toList, hs]; simp
  refine ⟨hlt, ?_⟩
  have : s.data.toList[0]? = some c := by rw [hs]; rfl
  simpa [ByteArray.getElem_eq_getElem_data, hlt] using this
theorem byte_ne (c d : UInt8) (h : c ≠ d) : ((c.toNat : Int) == (d.toNat : Int)) = false := by
  rw [beq_eq_false_iff_ne]
  intro e
  exact h (UInt8.toNat_inj.1 (by omega))
theorem byte_wrap (c : UInt8) : wrap64 (c.toNat : Int) = (c.toNat : Int) := by
  have := c.toNat_lt
  unfold wrap64; omega

set_option maxHeartbeats 2000000 in
set_option maxRecDepth 100000 in
theorem piece_other (s : ByteArray) (c : UInt8) (r : List UInt8) (hs : s.data.toList = c :: r) (hz : s.size ≤ 4096) (h1 : c ≠ 1) (h2 : c ≠ 2) (h3 : c ≠ 3) (w : World) :
    Calls Try.prog 35 #[.string s] w fun e w' => e = .returned (.tuple #[.agg #[.int .i64 (c.toNat : Int), .string ⟨#[]⟩, .int .u64 0], .int .i64 0]) ∧ Below w.heap.size w w' := by
  have hu36 := Try.underlying36
  obtain ⟨hlt, hc⟩ := head_of s c r hs
  have hw := byte_wrap c
  have e1 : ((c.toNat : Int) == 1) = false := byte_ne c 1 h1
  have e2 : ((c.toNat : Int) == 2) = false := byte_ne c 2 h2
  have e3 : ((c.toNat : Int) == 3) = false := byte_ne c 3 h3
  clear h1 h2 h3 hs
  go_enter Try.func35, Try.ntmps35
  go_wp2_with fail
  exact bodyPost_ret (v := .tuple #[.agg #[.int .i64 (c.toNat : Int), .string ⟨#[]⟩, .int .u64 0], .int .i64 0]) (by simp [results, Try.results35, go_sem]) rfl ⟨rfl, below_alloc (below_alloc (Below.refl _ _) _) _⟩

set_option maxHeartbeats 2000000 in
set_option maxRecDepth 100000 in
theorem piece_flag (s : ByteArray) (r : List UInt8) (hs : s.data.toList = 3 :: r) (hz : s.size ≤ 4096) (d : UInt8) (r2 : List UInt8) (hr : r = d :: r2) (w : World) :
    Calls Try.prog 35 #[.string s] w fun e w' => e = .returned (if d < 2 then .tuple #[.agg #[.int .i64 3, .string ⟨#[]⟩, .int .u64 (d.toNat : Int)], .int .i64 2] else .tuple #[.agg #[.int .i64 3, .string ⟨#[]⟩, .int .u64 0], .int .i64 0]) ∧ Below w.heap.size w w' := by
  have hu36 := Try.underlying36
  obtain ⟨hlt, hc⟩ := head_of s 3 r hs
  have hsz : 2 ≤ s.size := by show 2 ≤ s.data.size; rw [← Array.length_toList, hs, hr]; simp
  have hsz1 : (1 : Int) < (s.size : Int) := by omega
  have hd : s[1] = d := by
    have : s.data.toList[1]? = some d := by rw [hs, hr]; rfl
    have hlt1 : 1 < s.size := by omega
    simpa [ByteArray.getElem_eq_getElem_data, hlt1] using this
  have h9 : decide ((s.size : Int) ≥ 2) = true := by simp; omega
  clear hs hr
  by_cases hq : d < 2
  · have e4 : decide ((d.toNat : Int) < 2) = true := by
      rw [decide_eq_true_eq]; have := UInt8.lt_iff_toNat_lt.1 hq; simp at this; omega
    rw [if_pos hq]
    have hwu : IntKind.u64.wrap (d.toNat : Int) = (d.toNat : Int) := by have := d.toNat_lt; rw [IntKind.wrap_u64]; omega
    go_enter Try.func35, Try.ntmps35
    go_wp2_with fail
    exact bodyPost_ret (v := .tuple #[.agg #[.int .i64 3, .string ⟨#[]⟩, .int .u64 (d.toNat : Int)], .int .i64 2]) (by simp [results, Try.results35, go_sem]) rfl ⟨rfl, below_alloc (below_alloc (Below.refl _ _) _) _⟩
  · have e4 : decide ((d.toNat : Int) < 2) = false := by
      rw [decide_eq_false_iff_not]; intro h; exact hq (UInt8.lt_iff_toNat_lt.2 (by simp; omega))
    rw [if_neg hq]
    go_enter Try.func35, Try.ntmps35
    go_wp2_with fail
    exact bodyPost_ret (v := .tuple #[.agg #[.int .i64 3, .string ⟨#[]⟩, .int .u64 0], .int .i64 0]) (by simp [results, Try.results35, go_sem]) rfl ⟨rfl, below_alloc (below_alloc (Below.refl _ _) _) _⟩

theorem piece_flag0 (s : ByteArray) (hs : s.data.toList = [3]) (w : World) :
    Calls Try.prog 35 #[.string s] w fun e w' => e = .returned (.tuple #[.agg #[.int .i64 3, .string ⟨#[]⟩, .int .u64 0], .int .i64 0]) ∧ Below w.heap.size w w' := by
  have hu36 := Try.underlying36
  obtain ⟨hlt, hc⟩ := head_of s 3 [] hs
  have hsz : s.size = 1 := by show s.data.size = 1; rw [← Array.length_toList, hs]; rfl
  have h9 : decide ((s.size : Int) ≥ 2) = false := by simp; omega
  clear hs
  go_enter Try.func35, Try.ntmps35
  go_wp2_with fail
  exact bodyPost_ret (v := .tuple #[.agg #[.int .i64 3, .string ⟨#[]⟩, .int .u64 0], .int .i64 0]) (by simp [results, Try.results35, go_sem]) rfl ⟨rfl, below_alloc (below_alloc (Below.refl _ _) _) _⟩

set_option maxHeartbeats 2000000 in
set_option maxRecDepth 100000 in
theorem piece_num0 (s : ByteArray) (r : List UInt8) (hs : s.data.toList = 2 :: r) (hr : r.length < 8) (w : World) :
    Calls Try.prog 35 #[.string s] w fun e w' => e = .returned (.tuple #[.agg #[.int .i64 2, .string ⟨#[]⟩, .int .u64 0], .int .i64 0]) ∧ Below w.heap.size w w' := by
  have hu36 := Try.underlying36
  obtain ⟨hlt, hc⟩ := head_of s 2 r hs
  have hsz : s.size = r.length + 1 := by show s.data.size = _; rw [← Array.length_toList, hs]; rfl
  have h9 : decide ((s.size : Int) ≥ 9) = false := by simp; omega
  clear hs hsz
  go_enter Try.func35, Try.ntmps35
  go_wp2_with fail
  exact bodyPost_ret (v := .tuple #[.agg #[.int .i64 2, .string ⟨#[]⟩, .int .u64 0], .int .i64 0]) (by simp [results, Try.results35, go_sem]) rfl ⟨rfl, below_alloc (below_alloc (Below.refl _ _) _) _⟩

theorem at_of (s : ByteArray) (c : UInt8) (r : List UInt8) (hs : s.data.toList = c :: r) (j : Nat) (hj : j < r.length) : ∃ h : j + 1 < s.size, s[j + 1] = r[j] := by
  have hlt : j + 1 < s.size := by show j + 1 < s.data.size; rw [← Array.length_toList, hs]; simp; omega
  refine ⟨hlt, ?_⟩
  have : s.data.toList[j + 1]? = some r[j] := by rw [hs]; simp [hj]
  simpa [ByteArray.getElem_eq_getElem_data, hlt] using this

theorem or_swap (a b : Int) : bits .or .u64 a b = bits .or .u64 b a := by
  show IntKind.u64.wrap ((BitVec.ofInt 64 a ||| BitVec.ofInt 64 b).toNat : Int) = IntKind.u64.wrap ((BitVec.ofInt 64 b ||| BitVec.ofInt 64 a).toNat : Int)
  rw [BitVec.or_comm]
theorem or_step (n d : Int) (h0 : 0 ≤ n) (h1 : n < 72057594037927936) (h2 : 0 ≤ d) (h3 : d < 256) : bits .or .u64 (IntKind.u64.wrap (n * 256)) (IntKind.u64.wrap d) = n * 256 + d := by
  have e1 : IntKind.u64.wrap (n * 256) = n * 256 := by rw [IntKind.wrap_u64]; omega
  have e2 : IntKind.u64.wrap d = d := by rw [IntKind.wrap_u64]; omega
  rw [e1, e2, or_swap, u64_or8 d (n * 256) h2 h3 (by omega) (by omega) (by omega)]
  omega
theorem num8_snoc (l : List UInt8) (d : UInt8) : num8 (l ++ [d]) = num8 l * 256 + (d.toNat : Int) := by simp [num8]
theorem num8_bound (r : List UInt8) (j : Nat) : 0 ≤ num8 (r.take j) ∧ num8 (r.take j) < 256 ^ j := by
  induction j with
  | zero => exact ⟨by simp [num8], by simp [num8]⟩
  | succ j ih =>
    rcases Nat.lt_or_ge j r.length with h | h
    · rw [List.take_succ_eq_append_getElem h, num8_snoc]
      have := r[j].toNat_lt
      have e : (256 : Int) ^ (j + 1) = 256 ^ j * 256 := Int.pow_succ _ _
      rw [e]
      omega
    · rw [List.take_of_length_le (by omega)] at ih ⊢
      have e : (256 : Int) ^ (j + 1) = 256 ^ j * 256 := Int.pow_succ _ _
      rw [e]
      omega
theorem num8_lt (r : List UInt8) (j : Nat) (hj : j < 8) : num8 (r.take j) < 72057594037927936 := by
  have h := (num8_bound r j).2
  have : j = 0 ∨ j = 1 ∨ j = 2 ∨ j = 3 ∨ j = 4 ∨ j = 5 ∨ j = 6 ∨ j = 7 := by omega
  rcases this with rfl | rfl | rfl | rfl | rfl | rfl | rfl | rfl <;> (refine Int.lt_of_lt_of_le h ?_; decide)
theorem pblock_set (w : World) (b : Nat) (cs : Array Value) (T : TypeId) (f : Nat × Nat) (j : Nat) (v : Value) (h : w.heap[b]? = some (.cells cs T f)) : (w.setCell ⟨b, j, none⟩ v).heap[b]? = some (.cells (cs.setIfInBounds j v) T f) := by
  simp [World.setCell, Array.getElem?_modify, h]
theorem block_set_ne (w : World) (b c : Nat) (j : Nat) (v : Value) (hne : c ≠ b) : (w.setCell ⟨b, j, none⟩ v).heap[c]? = w.heap[c]? := Below.heap_setCell _ _ _ _ (by simpa using hne)
theorem block_alloc_old (w : World) (o : Obj) (b : Nat) (x : Obj) (h : w.heap[b]? = some x) : (w.alloc o).heap[b]? = some x := by
  rw [Below.heap_alloc w o b (Array.getElem?_eq_some_iff.1 h).1]; exact h
theorem block_alloc_new (w : World) (o : Obj) : (w.alloc o).heap[w.heap.size]? = some o := Hw.alloc_at w o

set_option maxHeartbeats 4000000 in
set_option maxRecDepth 100000 in
theorem piece_num (s : ByteArray) (r : List UInt8) (hs : s.data.toList = 2 :: r) (hr : 8 ≤ r.length) (hz : s.size ≤ 4096) (w : World) :
    Calls Try.prog 35 #[.string s] w fun e w' => e = .returned (.tuple #[.agg #[.int .i64 2, .string ⟨#[]⟩, .int .u64 (num8 (r.take 8))], .int .i64 9]) ∧ Below w.heap.size w w' := by
  have hu36 := Try.underlying36
  obtain ⟨hlt, hc⟩ := head_of s 2 r hs
  have hsz : s.size = r.length + 1 := by show s.data.size = _; rw [← Array.length_toList, hs]; rfl
  have h9 : decide ((s.size : Int) ≥ 9) = true := by simp; omega
  have HSZ := Aside0.mk hsz
  have HS := Aside0.mk hs
  clear hs hsz
  go_enter Try.func35, Try.ntmps35
  go_wp2_with fail
  go_loopg [7] 9 (fun kq v7 w' => ∃ j : Nat, v7 = .int .i64 ((j : Int) + 1) ∧ Aside0 (j + kq = 9 ∧ j ≤ 8) ∧ Aside0 (w'.heap[w.heap.size + 1]? = some (.cells #[.int .i64 2, .string ⟨#[]⟩, .int .u64 (num8 (r.take j))] 36 (0, 0))) ∧ Aside0 (w'.heap[w.heap.size]? = some (.cells #[.int .i64 0, .string ⟨#[]⟩, .int .u64 0] 36 (0, 0))) ∧ Aside0 (Below w.heap.size w w'))
  case atStart => exact ⟨0, rfl, ⟨by omega⟩, ⟨by have := block_alloc_new (w.alloc (.cells #[.int .i64 0, .string ⟨#[]⟩, .int .u64 0] 36)) (.cells #[.int .i64 2, .string ⟨#[]⟩, .int .u64 0] 36); simpa [num8] using this⟩, ⟨block_alloc_old _ _ _ _ (block_alloc_new w _)⟩, ⟨below_alloc (below_alloc (Below.refl _ _) _) _⟩⟩
  case round =>
    obtain ⟨j, rfl, HJ, HP, HQ, HB⟩ := hrel
    by_cases hj : j < 8
    · obtain ⟨hl1, he1⟩ := at_of s 2 r HS.out j (by omega)
      have hl1' : (j : Int) + 1 < (s.size : Int) := by omega
      have HN := Aside0.mk (num8_bound r j)
      have HN2 := Aside0.mk (num8_lt r j hj)
      have HT : Aside0 (num8 (r.take (j + 1)) = num8 (r.take j) * 256 + (r[j].toNat : Int)) := ⟨by rw [List.take_succ_eq_append_getElem (by omega), num8_snoc]⟩
      have c2 : wr.cell? ⟨w.heap.size + 1, 2, none⟩ = some (.int .u64 (num8 (r.take j))) := by rw [Lib.cell_of_heap HP.out]; rfl
      have f2 : wr.frozen? ⟨w.heap.size + 1, 2, none⟩ = false := Lib.frozen_of_heap HP.out 2
      have hn0 := HN.out.1
      generalize r[j] = d at *
      generalize num8 (r.take j) = n at *
      have HO := Aside0.mk (or_step n d.toNat hn0 HN2.out (by omega) (by have := d.toNat_lt; omega))
      clear hn0
      go_wp2_with fail
      go_region
      have HP3 : Aside0 ((wr.setCell ⟨w.heap.size + 1, 2, none⟩ (.int .u64 (bits .or .u64 (IntKind.u64.wrap (n * 256)) (IntKind.u64.wrap d.toNat)))).drew.heap[w.heap.size + 1]? = some (.cells #[.int .i64 2, .string ⟨#[]⟩, .int .u64 (num8 (r.take (j + 1)))] 36 (0, 0))) := ⟨by
        rw [HT.out, ← HO.out]; exact pblock_set wr _ _ _ _ 2 _ HP.out⟩
      have HQ3 : Aside0 ((wr.setCell ⟨w.heap.size + 1, 2, none⟩ (.int .u64 (bits .or .u64 (IntKind.u64.wrap (n * 256)) (IntKind.u64.wrap d.toNat)))).drew.heap[w.heap.size]? = some (.cells #[.int .i64 0, .string ⟨#[]⟩, .int .u64 0] 36 (0, 0))) := ⟨(block_set_ne wr _ _ 2 _ (by omega)).trans HQ.out⟩
      have HB3 : Aside0 (Below w.heap.size w (wr.setCell ⟨w.heap.size + 1, 2, none⟩ (.int .u64 (bits .or .u64 (IntKind.u64.wrap (n * 256)) (IntKind.u64.wrap d.toNat)))).drew) := ⟨below_drew (below_set HB.out (by simp))⟩
      generalize (wr.setCell ⟨w.heap.size + 1, 2, none⟩ (.int .u64 (bits .or .u64 (IntKind.u64.wrap (n * 256)) (IntKind.u64.wrap d.toNat)))).drew = w3 at *
      clear c2 f2 HP HQ HB HO HN HN2
      go_wp2_with fail
      go_roundg (gk - 1)
      case measure => have := HJ.out; omega
      case rel => exact ⟨j + 1, by simp, ⟨by have := HJ.out; omega⟩, HP3, HQ3, HB3⟩
    · have hj8 : j = 8 := by have := HJ.out; omega
      subst hj8
      have q0 : wr.cell? ⟨w.heap.size + 1, 0, none⟩ = some (.int .i64 2) := by rw [Lib.cell_of_heap HP.out]; rfl
      have q1 : wr.cell? ⟨w.heap.size + 1, 1, none⟩ = some (.string ⟨#[]⟩) := by rw [Lib.cell_of_heap HP.out]; rfl
      have q2 : wr.cell? ⟨w.heap.size + 1, 2, none⟩ = some (.int .u64 (num8 (r.take 8))) := by rw [Lib.cell_of_heap HP.out]; rfl
      have t0 : wr.cell? ⟨w.heap.size, 0, none⟩ = some (.int .i64 0) := by rw [Lib.cell_of_heap HQ.out]; rfl
      have t1 : wr.cell? ⟨w.heap.size, 1, none⟩ = some (.string ⟨#[]⟩) := by rw [Lib.cell_of_heap HQ.out]; rfl
      have t2 : wr.cell? ⟨w.heap.size, 2, none⟩ = some (.int .u64 0) := by rw [Lib.cell_of_heap HQ.out]; rfl
      have f0 : wr.frozen? ⟨w.heap.size, 0, none⟩ = false := Lib.frozen_of_heap HQ.out 0
      have f1 : wr.frozen? ⟨w.heap.size, 1, none⟩ = false := Lib.frozen_of_heap HQ.out 1
      have f2 : wr.frozen? ⟨w.heap.size, 2, none⟩ = false := Lib.frozen_of_heap HQ.out 2
      clear hj
      go_wp2_with fail
      have hW := pblock_set _ _ _ _ _ 2 (.int .u64 (num8 (r.take 8))) (pblock_set _ _ _ _ _ 1 (.string ⟨#[]⟩) (pblock_set _ _ _ _ _ 0 (.int .i64 2) HQ.out))
      obtain ⟨W3, hW3⟩ : ∃ W3, (((wr.setCell ⟨w.heap.size, 0, none⟩ (.int .i64 2)).setCell ⟨w.heap.size, 1, none⟩ (.string ⟨#[]⟩)).setCell ⟨w.heap.size, 2, none⟩ (.int .u64 (num8 (r.take 8)))) = W3 := ⟨_, rfl⟩
      have hbel : Below w.heap.size w W3 := by rw [← hW3]; repeat (first | exact HB.out | refine below_set ?_ (Nat.le_refl _))
      rw [hW3] at hW ⊢
      have r0 : W3.cell? ⟨w.heap.size, 0, none⟩ = some (.int .i64 2) := by rw [Lib.cell_of_heap hW]; rfl
      have r1 : W3.cell? ⟨w.heap.size, 1, none⟩ = some (.string ⟨#[]⟩) := by rw [Lib.cell_of_heap hW]; rfl
      have r2 : W3.cell? ⟨w.heap.size, 2, none⟩ = some (.int .u64 (num8 (r.take 8))) := by rw [Lib.cell_of_heap hW]; rfl
      exact bodyPost_ret (v := .tuple #[.agg #[.int .i64 2, .string ⟨#[]⟩, .int .u64 (num8 (r.take 8))], .int .i64 9]) (by simp [results, Try.results35, go_sem, r0, r1, r2]) rfl ⟨rfl, hbel⟩

/-- what is found behind place i, put behind what was found before it -/
def scanJoin (acc : List Int) (n : Nat) (o : Option (List Int × Nat)) : Option (List Int × Nat) := o.map (fun t => (acc ++ t.1, t.2 + n))
def textEnd (o : Option (List Int × Nat)) : Value := match o with
  | some t => .tuple #[.agg #[.int .i64 1, .string (strOfNums t.1), .int .u64 0], .int .i64 ((t.2 : Int) + 1)]
  | none => .tuple #[.agg #[.int .i64 1, .string ⟨#[]⟩, .int .u64 0], .int .i64 0]
theorem scan_short (l : List UInt8) (h : l.length < 2) : scanL l = none := by
  match l, h with
  | [], _ => rfl
  | [x], _ => rfl
theorem scan_byte (x y : UInt8) (r : List UInt8) (h : x ≠ 0) : scanL (x :: y :: r) = (scanL (y :: r)).map (fun t => ((x.toNat : Int) :: t.1, t.2 + 1)) := by
  rw [scanL]; simp [h]
theorem scan_nul (r : List UInt8) : scanL (0 :: 255 :: r) = (scanL r).map (fun t => ((0 : Int) :: t.1, t.2 + 2)) := by
  rw [scanL]; simp
theorem scan_end (r : List UInt8) : scanL (0 :: 1 :: r) = some ([], 2) := by
  rw [scanL]; simp
theorem scan_bad (y : UInt8) (r : List UInt8) (h1 : y ≠ 255) (h2 : y ≠ 1) : scanL (0 :: y :: r) = none := by
  rw [scanL]; simp [h1, h2]
theorem join_byte (acc : List Int) (n : Nat) (x y : UInt8) (r : List UInt8) (h : x ≠ 0) : scanJoin acc n (scanL (x :: y :: r)) = scanJoin (acc ++ [(x.toNat : Int)]) (n + 1) (scanL (y :: r)) := by
  rw [scan_byte x y r h]; cases scanL (y :: r) <;> simp [scanJoin]; omega
theorem join_nul (acc : List Int) (n : Nat) (r : List UInt8) : scanJoin acc n (scanL (0 :: 255 :: r)) = scanJoin (acc ++ [0]) (n + 2) (scanL r) := by
  rw [scan_nul]; cases scanL r <;> simp [scanJoin]; omega

set_option maxHeartbeats 4000000 in
set_option maxRecDepth 100000 in
theorem piece_text (s : ByteArray) (r : List UInt8) (hs : s.data.toList = 1 :: r) (hz : s.size ≤ 4096) (w : World) :
    Calls Try.prog 35 #[.string s] w fun e w' => e = .returned (textEnd (scanL r)) ∧ Below w.heap.size w w' := by
  have hu36 := Try.underlying36
  obtain ⟨hlt, hc⟩ := head_of s 1 r hs
  have hsz : s.size = r.length + 1 := by show s.data.size = _; rw [← Array.length_toList, hs]; rfl
  have HSZ := Aside0.mk hsz
  have HS := Aside0.mk hs
  clear hs hsz
  go_enter Try.func35, Try.ntmps35
  go_wp2_with fail
  have HP0 : Aside0 ((((w.alloc (.cells #[.int .i64 0, .string ⟨#[]⟩, .int .u64 0] 36)).alloc (.cells #[.int .i64 1, .string ⟨#[]⟩, .int .u64 0] 36)).alloc (.cells #[.pointer none, .slice none 0 0] 62)).heap[w.heap.size + 1]? = some (.cells #[.int .i64 1, .string ⟨#[]⟩, .int .u64 0] 36 (0, 0))) := ⟨block_alloc_old _ _ _ _ (by have := block_alloc_new (w.alloc (.cells #[.int .i64 0, .string ⟨#[]⟩, .int .u64 0] 36)) (.cells #[.int .i64 1, .string ⟨#[]⟩, .int .u64 0] 36); simpa using this)⟩
  have HQ0 : Aside0 ((((w.alloc (.cells #[.int .i64 0, .string ⟨#[]⟩, .int .u64 0] 36)).alloc (.cells #[.int .i64 1, .string ⟨#[]⟩, .int .u64 0] 36)).alloc (.cells #[.pointer none, .slice none 0 0] 62)).heap[w.heap.size]? = some (.cells #[.int .i64 0, .string ⟨#[]⟩, .int .u64 0] 36 (0, 0))) := ⟨block_alloc_old _ _ _ _ (block_alloc_old _ _ _ _ (block_alloc_new w _))⟩
  have HL0 : Aside0 (Bd.Bld (w.heap.size + 1 + 1) (w.heap.size + 1 + 1) [] (((w.alloc (.cells #[.int .i64 0, .string ⟨#[]⟩, .int .u64 0] 36)).alloc (.cells #[.int .i64 1, .string ⟨#[]⟩, .int .u64 0] 36)).alloc (.cells #[.pointer none, .slice none 0 0] 62))) := ⟨by have := Bd.Bld.fresh ((w.alloc (.cells #[.int .i64 0, .string ⟨#[]⟩, .int .u64 0] 36)).alloc (.cells #[.int .i64 1, .string ⟨#[]⟩, .int .u64 0] 36)); simpa using this⟩
  have HB0 : Aside0 (Below w.heap.size w (((w.alloc (.cells #[.int .i64 0, .string ⟨#[]⟩, .int .u64 0] 36)).alloc (.cells #[.int .i64 1, .string ⟨#[]⟩, .int .u64 0] 36)).alloc (.cells #[.pointer none, .slice none 0 0] 62))) := ⟨below_alloc (below_alloc (below_alloc (Below.refl _ _) _) _) _⟩
  generalize ((w.alloc (.cells #[.int .i64 0, .string ⟨#[]⟩, .int .u64 0] 36)).alloc (.cells #[.int .i64 1, .string ⟨#[]⟩, .int .u64 0] 36)).alloc (.cells #[.pointer none, .slice none 0 0] 62) = w1 at *
  go_loopg [6] r.length (fun kq v6 w' => ∃ k : Nat, ∃ acc : List Int, v6 = .int .i64 ((k : Int) + 1) ∧ Aside0 (k + kq = r.length) ∧ Aside0 (acc.length ≤ k ∧ ∀ x ∈ acc, 0 ≤ x ∧ x ≤ 255) ∧ Aside0 (scanL r = scanJoin acc k (scanL (r.drop k))) ∧ Aside0 (Bd.Bld (w.heap.size + 1 + 1) (w.heap.size + 1 + 1) acc w') ∧ Aside0 (w'.heap[w.heap.size + 1]? = some (.cells #[.int .i64 1, .string ⟨#[]⟩, .int .u64 0] 36 (0, 0))) ∧ Aside0 (w'.heap[w.heap.size]? = some (.cells #[.int .i64 0, .string ⟨#[]⟩, .int .u64 0] 36 (0, 0))) ∧ Aside0 (Below w.heap.size w w'))
  case atStart => exact ⟨0, [], rfl, ⟨by omega⟩, ⟨by simp⟩, ⟨by simp [scanJoin]⟩, HL0, HP0, HQ0, HB0⟩
  case round =>
    clear HP0 HQ0 HL0 HB0
    obtain ⟨k, acc, rfl, HJ, HA, HS2, HBL, HP, HQ, HB⟩ := hrel
    by_cases hk : k + 1 < r.length
    · obtain ⟨hl1, he1⟩ := at_of s 1 r HS.out k (by omega)
      obtain ⟨hl2, he2⟩ := at_of s 1 r HS.out (k + 1) hk
      have hin : decide ((k : Int) + 1 + 1 < (s.size : Int)) = true := by rw [decide_eq_true_eq, HSZ.out]; omega
      have HD : Aside0 (r.drop k = r[k] :: r[k + 1] :: r.drop (k + 2)) := ⟨by rw [List.drop_eq_getElem_cons (by omega), List.drop_eq_getElem_cons (by omega)]⟩
      have HD1 : Aside0 (r.drop (k + 1) = r[k + 1] :: r.drop (k + 2)) := ⟨by rw [List.drop_eq_getElem_cons (by omega)]⟩
      generalize r[k] = x at *
      generalize r[k + 1] = y at *
      have hidx : (k : Int) + 1 < (s.size : Int) := by omega
      have hidx2 : (k : Int) + 1 + 1 < (s.size : Int) := by omega
      by_cases hx : x = 0
      · subst hx
        have HE0 := Aside0.mk he1
        by_cases hy : y = 255
        · subst hy
          have HY : Aside0 (scanL r = scanJoin (acc ++ [0]) (k + 2) (scanL (r.drop (k + 2)))) := ⟨by rw [HS2.out, HD.out, join_nul]⟩
          clear HS2 HD HD1
          go_wp2_with fail
          refine (Bd.wbyte _ _ acc 0 wr HBL.out (by have := HA.out.1; omega)).mono ?_
          rintro e w3 ⟨rfl, h3, k3⟩
          have HBL3 := Aside0.mk h3
          have HP3 := Aside0.mk (k3.block HP.out (by omega) (by decide))
          have HQ3 := Aside0.mk (k3.block HQ.out (by omega) (by decide))
          have HB3 := Aside0.mk (HB.out.trans (k3.bel.mono (by omega)))
          clear h3 k3 HBL HP HQ HB
          clear he1 he2 hidx hidx2 hin
          go_wp2_with fail
          go_roundg (gk - 2)
          case measure => have := HJ.out; omega
          case rel => exact ⟨k + 2, acc ++ [0], by simp; omega, ⟨by have := HJ.out; omega⟩, ⟨by simp; have := HA.out.1; omega, by intro z hz; simp at hz; rcases hz with hz | rfl; exact HA.out.2 z hz; omega⟩, HY, HBL3, HP3, HQ3, HB3⟩
        · have hy0 : ((y.toNat : Int) == 255) = false := byte_ne y 255 hy
          by_cases hy2 : y = 1
          · subst hy2
            have HY : Aside0 (scanL r = some (acc, k + 2)) := ⟨by rw [HS2.out, HD.out, scan_end]; simp [scanJoin]; omega⟩
            clear HS2 HD HD1 hy hy0
            go_wp2_with fail
            refine (Bd.bstring _ _ acc wr HBL.out HA.out.2).mono ?_
            rintro e w3 ⟨rfl, h3, k3⟩
            have HP3 := Aside0.mk (k3.block HP.out (by omega) (by decide))
            have HQ3 := Aside0.mk (k3.block HQ.out (by omega) (by decide))
            have HB3 := Aside0.mk (HB.out.trans (k3.bel.mono (by omega)))
            clear h3 k3 HBL HP HQ HB
            generalize hSS : strOfNums acc = S at *
            have HSS := Aside0.mk hSS
            clear hSS
            have q0 : w3.cell? ⟨w.heap.size + 1, 0, none⟩ = some (.int .i64 1) := by rw [Lib.cell_of_heap HP3.out]; rfl
            have q1 : w3.cell? ⟨w.heap.size + 1, 1, none⟩ = some (.string ⟨#[]⟩) := by rw [Lib.cell_of_heap HP3.out]; rfl
            have q2 : w3.cell? ⟨w.heap.size + 1, 2, none⟩ = some (.int .u64 0) := by rw [Lib.cell_of_heap HP3.out]; rfl
            have t0 : w3.cell? ⟨w.heap.size, 0, none⟩ = some (.int .i64 0) := by rw [Lib.cell_of_heap HQ3.out]; rfl
            have f0 : w3.frozen? ⟨w.heap.size, 0, none⟩ = false := Lib.frozen_of_heap HQ3.out 0
            have t1 : w3.cell? ⟨w.heap.size, 1, none⟩ = some (.string ⟨#[]⟩) := by rw [Lib.cell_of_heap HQ3.out]; rfl
            have f1 : w3.frozen? ⟨w.heap.size, 1, none⟩ = false := Lib.frozen_of_heap HQ3.out 1
            have t2 : w3.cell? ⟨w.heap.size, 2, none⟩ = some (.int .u64 0) := by rw [Lib.cell_of_heap HQ3.out]; rfl
            have f2 : w3.frozen? ⟨w.heap.size, 2, none⟩ = false := Lib.frozen_of_heap HQ3.out 2
            have g1 : w3.frozen? ⟨w.heap.size + 1, 1, none⟩ = false := Lib.frozen_of_heap HP3.out 1
            go_wp2_with fail
            have HQ4 : (w3.setCell ⟨w.heap.size + 1, 1, none⟩ (.string S)).heap[w.heap.size]? = _ := (block_set_ne w3 _ _ 1 _ (by omega)).trans HQ3.out
            have hW := pblock_set _ _ _ _ _ 2 (.int .u64 0) (pblock_set _ _ _ _ _ 1 (.string S) (pblock_set _ _ _ _ _ 0 (.int .i64 1) HQ4))
            obtain ⟨W3, hW3⟩ : ∃ W3, ((((w3.setCell ⟨w.heap.size + 1, 1, none⟩ (.string S)).setCell ⟨w.heap.size, 0, none⟩ (.int .i64 1)).setCell ⟨w.heap.size, 1, none⟩ (.string S)).setCell ⟨w.heap.size, 2, none⟩ (.int .u64 0)) = W3 := ⟨_, rfl⟩
            have hbel : Below w.heap.size w W3 := by rw [← hW3]; repeat (first | exact HB3.out | refine below_set ?_ (Nat.le_refl _) | refine below_set ?_ (Nat.le_succ _))
            rw [hW3] at hW ⊢
            have r0 : W3.cell? ⟨w.heap.size, 0, none⟩ = some (.int .i64 1) := by rw [Lib.cell_of_heap hW]; rfl
            have r1 : W3.cell? ⟨w.heap.size, 1, none⟩ = some (.string S) := by rw [Lib.cell_of_heap hW]; rfl
            have r2 : W3.cell? ⟨w.heap.size, 2, none⟩ = some (.int .u64 0) := by rw [Lib.cell_of_heap hW]; rfl
            exact bodyPost_ret (v := .tuple #[.agg #[.int .i64 1, .string S, .int .u64 0], .int .i64 ((k : Int) + 1 + 2)]) (by simp [results, Try.results35, go_sem, r0, r1, r2]) rfl ⟨by rw [HY.out]; show _ = Ending.returned (.tuple #[.agg #[.int .i64 1, .string (strOfNums acc), .int .u64 0], .int .i64 (((k + 2 : Nat) : Int) + 1)]); rw [HSS.out, show (((k + 2 : Nat) : Int) + 1) = (k : Int) + 1 + 2 from by omega], hbel⟩
          · have hy1 : ((y.toNat : Int) == 1) = false := byte_ne y 1 hy2
            have HY : Aside0 (scanL r = none) := ⟨by rw [HS2.out, HD.out, scan_bad _ _ hy hy2]; rfl⟩
            clear HS2 HD HD1 hy hy2
            have q0 : wr.cell? ⟨w.heap.size + 1, 0, none⟩ = some (.int .i64 1) := by rw [Lib.cell_of_heap HP.out]; rfl
            have q1 : wr.cell? ⟨w.heap.size + 1, 1, none⟩ = some (.string ⟨#[]⟩) := by rw [Lib.cell_of_heap HP.out]; rfl
            have q2 : wr.cell? ⟨w.heap.size + 1, 2, none⟩ = some (.int .u64 0) := by rw [Lib.cell_of_heap HP.out]; rfl
            have t0 : wr.cell? ⟨w.heap.size, 0, none⟩ = some (.int .i64 0) := by rw [Lib.cell_of_heap HQ.out]; rfl
            have f0 : wr.frozen? ⟨w.heap.size, 0, none⟩ = false := Lib.frozen_of_heap HQ.out 0
            have t1 : wr.cell? ⟨w.heap.size, 1, none⟩ = some (.string ⟨#[]⟩) := by rw [Lib.cell_of_heap HQ.out]; rfl
            have f1 : wr.frozen? ⟨w.heap.size, 1, none⟩ = false := Lib.frozen_of_heap HQ.out 1
            have t2 : wr.cell? ⟨w.heap.size, 2, none⟩ = some (.int .u64 0) := by rw [Lib.cell_of_heap HQ.out]; rfl
            have f2 : wr.frozen? ⟨w.heap.size, 2, none⟩ = false := Lib.frozen_of_heap HQ.out 2
            have g1 : wr.frozen? ⟨w.heap.size + 1, 1, none⟩ = false := Lib.frozen_of_heap HP.out 1
            go_wp2_with fail
            have hW := pblock_set _ _ _ _ _ 2 (.int .u64 0) (pblock_set _ _ _ _ _ 1 (.string ⟨#[]⟩) (pblock_set _ _ _ _ _ 0 (.int .i64 1) HQ.out))
            obtain ⟨W3, hW3⟩ : ∃ W3, (((wr.setCell ⟨w.heap.size, 0, none⟩ (.int .i64 1)).setCell ⟨w.heap.size, 1, none⟩ (.string ⟨#[]⟩)).setCell ⟨w.heap.size, 2, none⟩ (.int .u64 0)) = W3 := ⟨_, rfl⟩
            have hbel : Below w.heap.size w W3 := by rw [← hW3]; repeat (first | exact HB.out | refine below_set ?_ (Nat.le_refl _) | refine below_set ?_ (Nat.le_succ _))
            rw [hW3] at hW ⊢
            have r0 : W3.cell? ⟨w.heap.size, 0, none⟩ = some (.int .i64 1) := by rw [Lib.cell_of_heap hW]; rfl
            have r1 : W3.cell? ⟨w.heap.size, 1, none⟩ = some (.string ⟨#[]⟩) := by rw [Lib.cell_of_heap hW]; rfl
            have r2 : W3.cell? ⟨w.heap.size, 2, none⟩ = some (.int .u64 0) := by rw [Lib.cell_of_heap hW]; rfl
            exact bodyPost_ret (v := .tuple #[.agg #[.int .i64 1, .string ⟨#[]⟩, .int .u64 0], .int .i64 0]) (by simp [results, Try.results35, go_sem, r0, r1, r2]) rfl ⟨by rw [HY.out]; rfl, hbel⟩
      · have hx0 : ((x.toNat : Int) == 0) = false := byte_ne x 0 hx
        have hx1 : ((x.toNat : Int) != 0) = true := by rw [bne, hx0]; rfl
        have HY : Aside0 (scanL r = scanJoin (acc ++ [(x.toNat : Int)]) (k + 1) (scanL (r.drop (k + 1)))) := ⟨by rw [HS2.out, HD.out, join_byte _ _ _ _ _ hx, HD1.out]⟩
        clear hx HS2 HD HD1
        go_wp2_with fail
        refine (Bd.wbyte _ _ acc x.toNat wr HBL.out (by have := HA.out.1; omega)).mono ?_
        rintro e w3 ⟨rfl, h3, k3⟩
        have HBL3 := Aside0.mk h3
        have HP3 := Aside0.mk (k3.block HP.out (by omega) (by decide))
        have HQ3 := Aside0.mk (k3.block HQ.out (by omega) (by decide))
        have HB3 := Aside0.mk (HB.out.trans (k3.bel.mono (by omega)))
        clear h3 k3 HBL HP HQ HB
        clear he1 he2 hidx hidx2 hin
        go_wp2_with fail
        go_roundg (gk - 1)
        case measure => have := HJ.out; omega
        case rel => exact ⟨k + 1, acc ++ [(x.toNat : Int)], by simp, ⟨by have := HJ.out; omega⟩, ⟨by simp; exact HA.out.1, by intro z hz; simp at hz; rcases hz with hz | rfl; exact HA.out.2 z hz; have := x.toNat_lt; omega⟩, HY, HBL3, HP3, HQ3, HB3⟩
    · have hkb : (k : Int) ≤ 4096 := by have := HJ.out; have := HSZ.out; omega
      have hin : decide ((k : Int) + 1 + 1 < (s.size : Int)) = false := by rw [decide_eq_false_iff_not, HSZ.out]; omega
      have HY : Aside0 (scanL r = none) := ⟨by rw [HS2.out, scan_short _ (by rw [List.length_drop]; omega)]; rfl⟩
      clear HS2 hk
      have q0 : wr.cell? ⟨w.heap.size + 1, 0, none⟩ = some (.int .i64 1) := by rw [Lib.cell_of_heap HP.out]; rfl
      have q1 : wr.cell? ⟨w.heap.size + 1, 1, none⟩ = some (.string ⟨#[]⟩) := by rw [Lib.cell_of_heap HP.out]; rfl
      have q2 : wr.cell? ⟨w.heap.size + 1, 2, none⟩ = some (.int .u64 0) := by rw [Lib.cell_of_heap HP.out]; rfl
      have t0 : wr.cell? ⟨w.heap.size, 0, none⟩ = some (.int .i64 0) := by rw [Lib.cell_of_heap HQ.out]; rfl
      have f0 : wr.frozen? ⟨w.heap.size, 0, none⟩ = false := Lib.frozen_of_heap HQ.out 0
      have t1 : wr.cell? ⟨w.heap.size, 1, none⟩ = some (.string ⟨#[]⟩) := by rw [Lib.cell_of_heap HQ.out]; rfl
      have f1 : wr.frozen? ⟨w.heap.size, 1, none⟩ = false := Lib.frozen_of_heap HQ.out 1
      have t2 : wr.cell? ⟨w.heap.size, 2, none⟩ = some (.int .u64 0) := by rw [Lib.cell_of_heap HQ.out]; rfl
      have f2 : wr.frozen? ⟨w.heap.size, 2, none⟩ = false := Lib.frozen_of_heap HQ.out 2
      have g1 : wr.frozen? ⟨w.heap.size + 1, 1, none⟩ = false := Lib.frozen_of_heap HP.out 1
      go_wp2_with fail
      have hW := pblock_set _ _ _ _ _ 2 (.int .u64 0) (pblock_set _ _ _ _ _ 1 (.string ⟨#[]⟩) (pblock_set _ _ _ _ _ 0 (.int .i64 1) HQ.out))
      obtain ⟨W3, hW3⟩ : ∃ W3, (((wr.setCell ⟨w.heap.size, 0, none⟩ (.int .i64 1)).setCell ⟨w.heap.size, 1, none⟩ (.string ⟨#[]⟩)).setCell ⟨w.heap.size, 2, none⟩ (.int .u64 0)) = W3 := ⟨_, rfl⟩
      have hbel : Below w.heap.size w W3 := by rw [← hW3]; repeat (first | exact HB.out | refine below_set ?_ (Nat.le_refl _) | refine below_set ?_ (Nat.le_succ _))
      rw [hW3] at hW ⊢
      have r0 : W3.cell? ⟨w.heap.size, 0, none⟩ = some (.int .i64 1) := by rw [Lib.cell_of_heap hW]; rfl
      have r1 : W3.cell? ⟨w.heap.size, 1, none⟩ = some (.string ⟨#[]⟩) := by rw [Lib.cell_of_heap hW]; rfl
      have r2 : W3.cell? ⟨w.heap.size, 2, none⟩ = some (.int .u64 0) := by rw [Lib.cell_of_heap hW]; rfl
      exact bodyPost_ret (v := .tuple #[.agg #[.int .i64 1, .string ⟨#[]⟩, .int .u64 0], .int .i64 0]) (by simp [results, Try.results35, go_sem, r0, r1, r2]) rfl ⟨by rw [HY.out]; rfl, hbel⟩

theorem keys_piece.calls (a0 : ByteArray) (r1 : Int) (r2 : ByteArray) (r3 : Int) (r4 : Int) (w : World) (h : keys_piece.f a0 = some (r1, r2, r3, r4)) :
    Calls Try.prog 35 #[.string a0] w fun e w' => e = .returned (.tuple #[.agg #[.int .i64 r1, .string r2, .int .u64 r3], .int .i64 r4]) ∧ Below w.heap.size w w' := by
  unfold keys_piece.f at h
  split at h
  · rename_i hz
    match hs : a0.data.toList with
    | [] => rw [hs] at h; simp [pieceL] at h
    | c :: r =>
      rw [hs] at h
      by_cases h1 : c = 1
      · subst h1
        refine (piece_text a0 r hs hz w).mono ?_
        rintro e w' ⟨rfl, hb⟩
        refine ⟨?_, hb⟩
        simp only [pieceL, if_true] at h
        cases hq : scanL r with
        | none => rw [hq] at h; simp at h; obtain ⟨rfl, rfl, rfl, rfl⟩ := h; rfl
        | some t => rw [hq] at h; simp at h; obtain ⟨rfl, rfl, rfl, rfl⟩ := h; rfl
      · by_cases h2 : c = 2
        · subst h2
          by_cases h8 : 8 ≤ r.length
          · simp [pieceL, h8] at h
            obtain ⟨rfl, rfl, rfl, rfl⟩ := h
            exact piece_num a0 r hs h8 hz w
          · simp [pieceL, h8] at h
            obtain ⟨rfl, rfl, rfl, rfl⟩ := h
            exact piece_num0 a0 r hs (by omega) w
        · by_cases h3 : c = 3
          · subst h3
            match r, hs, h with
            | [], hs, h =>
              simp [pieceL] at h
              obtain ⟨rfl, rfl, rfl, rfl⟩ := h
              exact piece_flag0 a0 hs w
            | d :: r', hs, h =>
              refine (piece_flag a0 _ hs hz d r' rfl w).mono ?_
              rintro e w' ⟨rfl, hb⟩
              refine ⟨?_, hb⟩
              by_cases hd : d < 2
              · simp [pieceL, hd] at h
                obtain ⟨rfl, rfl, rfl, rfl⟩ := h
                rw [if_pos hd]
              · simp [pieceL, hd] at h
                obtain ⟨rfl, rfl, rfl, rfl⟩ := h
                rw [if_neg hd]
          · simp [pieceL, h1, h2, h3] at h
            obtain ⟨rfl, rfl, rfl, rfl⟩ := h
            exact piece_other a0 c r hs hz h1 h2 h3 w
  · simp at h


end Go.Proofs.Ytjkljhcfbgcgoaa.K
end
section
namespace Go.Proofs.Ytjkljhcfbgcgoaa.K
open Go.RowKit Go.Proofs.YtjkljhcfbgcgoaaW.PrintWords Go.Proofs.YtjkljhcfbgcgoaaW.PrintLast Go.Proofs.YtjkljhcfbgcgoaaW.PrintMore
attribute [local go_sem] max2_int min2_int max_two min_two max_three min_three max_four min_four   -- for this text's walks alone
set_option linter.unusedVariables false
set_option linter.unusedSimpArgs false

/-! ### keys_Decode: function 25 -/
def keys_Decode.l0 : Nat → List (S36) → ByteArray → Option ((List (S36)) × Int)
  | 0, _, _ => none
  | k + 1, x4, x5 => if x5.toList = ([] : List UInt8) then (some (x4, 0)) else ((keys_piece.f x5).bind fun bt327 => (if bt327.2.2.2 = 0 then (some (([] : List (S36)), 12)) else (if x4.length < 4398046511104 then (if 0 ≤ bt327.2.2.2 then (if bt327.2.2.2 ≤ (x5.size : Int) then (keys_Decode.l0 k (x4 ++ [(⟨bt327.1, bt327.2.1, bt327.2.2.1⟩ : S36)]) (x5.extract (bt327.2.2.2 : Int).toNat x5.size)) else (none)) else (none)) else (none))))
def keys_Decode.f (k : Nat) (a0 : ByteArray) : Option ((List (S36)) × Int) := if (a0.size : Int) > 1024 then (some (([] : List (S36)), 11)) else (keys_Decode.l0 k ([] : List (S36)) a0)
theorem keys_Decode.mono_l : ∀ k, (∀ y0 y1, LeO (keys_Decode.l0 k y0 y1) (keys_Decode.l0 (k + 1) y0 y1))
  | 0 => fun _ _ r h => by simp [keys_Decode.l0] at h
  | k + 1 => by
    have ih0 := keys_Decode.mono_l k
    · intro y0 y1
      unfold keys_Decode.l0
      repeat' first
      | (with_reducible exact ih0 _ _)
      | (with_reducible exact LeO.refl _)
      | (with_reducible exact LeO.none _)
      | (with_reducible refine LeO.ite ?_ ?_)
      | (with_reducible refine LeO.bind ?_ (fun _ => ?_))
      | exact ih0 _ _
      | exact LeO.none _
      | refine LeO.ite ?_ ?_
      | refine LeO.bind ?_ (fun _ => ?_)
theorem keys_Decode.mono : ∀ a0 k, LeO (keys_Decode.f k a0) (keys_Decode.f (k + 1) a0) := by
  intro a0 k
  have ih0 := keys_Decode.mono_l k
  unfold keys_Decode.f
  repeat' first
      | (with_reducible exact ih0 _ _)
      | (with_reducible exact LeO.refl _)
      | (with_reducible exact LeO.none _)
      | (with_reducible refine LeO.ite ?_ ?_)
      | (with_reducible refine LeO.bind ?_ (fun _ => ?_))
      | exact ih0 _ _
      | exact LeO.none _
      | refine LeO.ite ?_ ?_
      | refine LeO.bind ?_ (fun _ => ?_)
set_option maxHeartbeats 8000000 in
set_option maxRecDepth 100000 in
theorem keys_Decode.calls (k : Nat) (a0 : ByteArray) (r1 : List (S36)) (r2 : Int) (w : World) (h : keys_Decode.f k a0 = some (r1, r2)) :
    Calls Try.prog 25 #[.string a0] w fun e w' => ∃ v0_ : Value, e = .returned (.tuple #[v0_, .int .i64 r2]) ∧ Kd.R k36 36 w' w.heap.size (fun _ => True) v0_ r1 ∧ Below w.heap.size w w' := by
  have hu36 := Try.underlying36
  have HB := Aside0.mk (Below.refl w.heap.size w)
  have H : (if (a0.size : Int) > 1024 then (some (([] : List (S36)), 11)) else (keys_Decode.l0 k ([] : List (S36)) a0)) = some (r1, r2) := h
  clear h
  by_cases c2 : (a0.size : Int) > 1024
  · rw [if_pos c2] at H
    have c2b0 : decide (1024 < (a0.size : Int)) = true := decide_eq_true c2
    have c2b1 : decide (1024 < a0.size) = true := decide_eq_true (by omega)
    clear c2
    simp only [Option.some.injEq, Prod.mk.injEq] at H
    obtain ⟨rfl, rfl⟩ := H
    go_enter Try.func25, Try.ntmps25
    go_wp2
    go_ret2
    exact ⟨_, by first | rfl | (simp [errW_none, errW_some] <;> rfl) | (simp [*, errW_none, errW_some] <;> rfl), by first | exact Kd.R_nil _ _ _ _ _ | exact Kd.N_nil _ _ _ _ _ | exact Kd.V_nil _ _ _ _ _ | exact Kd.Q_nil _ _ _ _ _ | exact Kd.S_nil _ _ _ _ _, by repeat (first | (with_reducible first | exact HB.out | apply below_alloc | apply pw_below_drewN | apply below_drew1) | exact HB.out)⟩
  · rw [if_neg c2] at H
    have c2b0 : decide (1024 < (a0.size : Int)) = false := decide_eq_false c2
    have c2b1 : decide (1024 < a0.size) = false := decide_eq_false (by omega)
    clear c2
    have H' := Aside0.mk H
    clear H
    go_enter Try.func25, Try.ntmps25
    go_wp2
    go_loopg [4, 5] k (fun kq v4 v5 w' => ∃ (x4_1 : List (S36)) (x5_1 : ByteArray), v5 = .string x5_1 ∧ Aside0 (keys_Decode.l0 kq x4_1 x5_1 = some (r1, r2)) ∧ Aside0 (kq ≤ k) ∧ Aside0 (Kd.R k36 36 w' w.heap.size (fun _ => True) v4 x4_1) ∧ Aside0 (Below w.heap.size w w'))
    case atStart => exact ⟨(([] : List (S36))), (a0), (by first | rfl | (simp; done) | (simp [*]; done)), H', ⟨Nat.le_refl _⟩, ⟨by first | exact Kd.R_nil _ _ _ _ _ | exact Kd.N_nil _ _ _ _ _ | exact Kd.V_nil _ _ _ _ _ | exact Kd.Q_nil _ _ _ _ _ | exact Kd.S_nil _ _ _ _ _⟩, ⟨by repeat (first | (with_reducible first | exact HB.out | apply below_alloc | apply pw_below_drewN | apply below_drew1) | exact HB.out)⟩⟩
    case round =>
      clear H'
      try clear c2
      try clear c2b0
      try clear c2b1
      try clear p2
      obtain ⟨x4_1, x5_1, rfl, HA, HK1, HO_4, HB⟩ := hrel
      cases gk with
      | zero => exact absurd HA.out (by simp [keys_Decode.l0])
      | succ k1 =>
        have H := HA.out
        clear HA
        simp only [keys_Decode.l0] at H
        by_cases c3 : x5_1.toList = ([] : List UInt8)
        · rw [if_pos c3] at H
          have c3b0 : (x5_1.toList == ([] : List UInt8)) = true := beq_iff_eq.mpr c3
          have c3b1 : (x5_1.toList != ([] : List UInt8)) = false := bne_eq_false_iff_eq.mpr c3
          clear c3
          simp only [Option.some.injEq, Prod.mk.injEq] at H
          obtain ⟨rfl, rfl⟩ := H
          go_wp2
          go_ret2
          exact ⟨_, by first | rfl | (simp [errW_none, errW_some] <;> rfl) | (simp [*, errW_none, errW_some] <;> rfl), by (with_reducible repeat (first | apply Kd.R_alloc | apply Kd.R_drewN | apply Kd.R_drew)); exact HO_4.out, by repeat (first | (with_reducible first | exact HB.out | apply below_alloc | apply pw_below_drewN | apply below_drew1) | exact HB.out)⟩
        · rw [if_neg c3] at H
          have c3b0 : (x5_1.toList == ([] : List UInt8)) = false := beq_eq_false_iff_ne.mpr c3
          have c3b1 : (x5_1.toList != ([] : List UInt8)) = true := bne_iff_ne.mpr c3
          replace H := Option.bind_eq_some_iff.mp H
          obtain ⟨⟨t327, t328, t329, t330⟩, A40, H⟩ := H
          replace H : (if t330 = 0 then (some (([] : List (S36)), 12)) else (if x4_1.length < 4398046511104 then (if 0 ≤ t330 then (if t330 ≤ (x5_1.size : Int) then (keys_Decode.l0 k1 (x4_1 ++ [(⟨t327, t328, t329⟩ : S36)]) (x5_1.extract (t330 : Int).toNat x5_1.size)) else (none)) else (none)) else (none))) = some (r1, r2) := H
          have A4 := Aside0.mk A40
          clear A40
          by_cases c5 : t330 = 0
          · rw [if_pos c5] at H
            have c5b0 : (t330 == 0) = true := beq_iff_eq.mpr c5
            have c5b1 : (t330 != 0) = false := bne_eq_false_iff_eq.mpr c5
            clear c5
            simp only [Option.some.injEq, Prod.mk.injEq] at H
            obtain ⟨rfl, rfl⟩ := H
            go_wp2_with (first | ((with_reducible refine gate_callee (f := 35) rfl ?_); refine goesL_ (some 16) rfl rfl Try.func35 (by kernel_rfl) rfl #[.string x5_1] rfl (by (try simp only [List.map_toArray, List.map_cons, List.map_nil]); first | done | rfl | (simp only [List.length_drop, List.length_take]; rfl)) ?_; (with_reducible refine (keys_piece.calls x5_1 t327 t328 t329 t330 _ A4.out).mono ?_); rintro e w6 ⟨rfl, hb⟩; refine ⟨_, rfl, ?_⟩; have n0_ := Aside0.mk (Kd.R_below (by (with_reducible repeat (first | apply Kd.R_alloc | apply Kd.R_drewN | apply Kd.R_drew)); exact HO_4.out) hb); have n1_ := Aside0.mk (below_step (by repeat (first | (with_reducible first | exact HB.out | apply below_alloc | apply pw_below_drewN | apply below_drew1) | exact HB.out)) hb); clear HO_4; clear HB; have HO_4 := n0_; have HB := n1_; clear n0_ n1_; (try clear hb); (try clear hb2); (try clear hk); (try clear hi)) | ((with_reducible refine gate_dst (N := 6) rfl ?_); refine box_event ?hg (N := 6) ?hd (cs := #[.int .i64 0, .string (⟨#[]⟩ : ByteArray), .int .u64 0]) (t := 36) ?hr ?_; (case hd => rfl); (case hg => rfl); (case hr => first | (go_simp; done) | (go_simp; rfl)); intro gb331 hg w7 hbox hb; have n0_ := Aside0.mk (Kd.R_below (Kd.R_elderB (by (with_reducible repeat (first | apply Kd.R_alloc | apply Kd.R_drewN | apply Kd.R_drew)); exact HO_4.out) gb331 (Nat.le_of_eq hg.symm)) hb); have n1_ := Aside0.mk (below_step (by repeat (first | (with_reducible first | exact HB.out | apply below_alloc | apply pw_below_drewN | apply below_drew1) | exact HB.out)) hb); have n2_ := Aside0.mk (hbox); have n3_ := Aside0.mk ((by rw [hg]; exact (below_size (by repeat (first | (with_reducible first | exact HB.out | apply below_alloc | apply pw_below_drewN | apply below_drew1) | exact HB.out))) : w.heap.size ≤ gb331)); have n4_ := Aside0.mk ((by rw [hg]; exact (below_size (by repeat (first | (with_reducible first | exact HB.out | apply below_alloc | apply pw_below_drewN | apply below_drew1) | exact HB.out))) : w.heap.size ≤ gb331)); clear HO_4; clear HB; have HO_4 := n0_; have HB := n1_; have BK331 := n2_; have GW331 := n3_; have GE331 := n4_; clear n0_ n1_ n2_ n3_ n4_; clear hb hbox hg; have hcz8_0 : w7.cell? ⟨gb331, 0, none⟩ = some (.int .i64 0) := (blk_cell BK331.out 0).trans rfl; have hcz8_1 : w7.cell? ⟨gb331, 1, none⟩ = some (.string (⟨#[]⟩ : ByteArray)) := (blk_cell BK331.out 1).trans rfl; have hcz8_2 : w7.cell? ⟨gb331, 2, none⟩ = some (.int .u64 0) := (blk_cell BK331.out 2).trans rfl; have hfz8_0 := blk_frozen BK331.out 0; have hfz8_1 := blk_frozen BK331.out 1; have hfz8_2 := blk_frozen BK331.out 2))
            go_ret2
            exact ⟨_, by first | rfl | (simp [errW_none, errW_some] <;> rfl) | (simp [*, errW_none, errW_some] <;> rfl), by first | exact Kd.R_nil _ _ _ _ _ | exact Kd.N_nil _ _ _ _ _ | exact Kd.V_nil _ _ _ _ _ | exact Kd.Q_nil _ _ _ _ _ | exact Kd.S_nil _ _ _ _ _, by repeat (first | (with_reducible first | exact HB.out | apply below_alloc | apply pw_below_drewN | apply below_drew1 | refine below_set ?_ GE331.out) | exact HB.out)⟩
          · rw [if_neg c5] at H
            have c5b0 : (t330 == 0) = false := beq_eq_false_iff_ne.mpr c5
            have c5b1 : (t330 != 0) = true := bne_iff_ne.mpr c5
            by_cases c9 : x4_1.length < 4398046511104
            · rw [if_pos c9] at H
              have LMc9 := Aside0.mk c9
              clear c9
              obtain ⟨y332, hy332⟩ : ∃ y_ : List (S36), y_ = (x4_1 ++ [(⟨t327, t328, t329⟩ : S36)]) := ⟨_, rfl⟩
              replace H : (if 0 ≤ t330 then (if t330 ≤ (x5_1.size : Int) then (keys_Decode.l0 k1 y332 (x5_1.extract (t330 : Int).toNat x5_1.size)) else (none)) else (none)) = some (r1, r2) := by first | (rw [hy332]; with_reducible exact H) | (have H2_ := (Option.bind_some _ _).symm.trans H; rw [hy332]; with_reducible exact H2_) | (have H2_ := (Option.bind_some _ _).symm.trans H; with_reducible exact H2_) | with_reducible exact H | (rw [hy332]; exact H) | exact H
              have Ny332 := Aside0.mk hy332
              clear hy332
              by_cases c10 : 0 ≤ t330
              · rw [if_pos c10] at H
                have c10b0 := eq_true c10
                have c10b1 : decide (0 ≤ t330) = true := decide_eq_true c10
                clear c10
                by_cases c11 : t330 ≤ (x5_1.size : Int)
                · rw [if_pos c11] at H
                  have c11b0 := eq_true c11
                  have c11b1 : decide (t330 ≤ (x5_1.size : Int)) = true := decide_eq_true c11
                  clear c11
                  have H' := Aside0.mk H
                  clear H
                  go_wp2_with (first | ((with_reducible refine gate_callee (f := 35) rfl ?_); refine goesL_ (some 16) rfl rfl Try.func35 (by kernel_rfl) rfl #[.string x5_1] rfl (by (try simp only [List.map_toArray, List.map_cons, List.map_nil]); first | done | rfl | (simp only [List.length_drop, List.length_take]; rfl)) ?_; (with_reducible refine (keys_piece.calls x5_1 t327 t328 t329 t330 _ A4.out).mono ?_); rintro e w12 ⟨rfl, hb⟩; refine ⟨_, rfl, ?_⟩; have n0_ := Aside0.mk (Kd.R_below (by (with_reducible repeat (first | apply Kd.R_alloc | apply Kd.R_drewN | apply Kd.R_drew)); exact HO_4.out) hb); have n1_ := Aside0.mk (below_step (by repeat (first | (with_reducible first | exact HB.out | apply below_alloc | apply pw_below_drewN | apply below_drew1) | exact HB.out)) hb); clear HO_4; clear HB; have HO_4 := n0_; have HB := n1_; clear n0_ n1_; (try clear hb); (try clear hb2); (try clear hk); (try clear hi)) | ((with_reducible refine gate_dst (N := 6) rfl ?_); refine box_event ?hg (N := 6) ?hd (cs := #[.int .i64 0, .string (⟨#[]⟩ : ByteArray), .int .u64 0]) (t := 36) ?hr ?_; (case hd => rfl); (case hg => rfl); (case hr => first | (go_simp; done) | (go_simp; rfl)); intro gb331 hg w13 hbox hb; have n0_ := Aside0.mk (Kd.R_below (Kd.R_elderB (by (with_reducible repeat (first | apply Kd.R_alloc | apply Kd.R_drewN | apply Kd.R_drew)); exact HO_4.out) gb331 (Nat.le_of_eq hg.symm)) hb); have n1_ := Aside0.mk (below_step (by repeat (first | (with_reducible first | exact HB.out | apply below_alloc | apply pw_below_drewN | apply below_drew1) | exact HB.out)) hb); have n2_ := Aside0.mk (hbox); have n3_ := Aside0.mk ((by rw [hg]; exact (below_size (by repeat (first | (with_reducible first | exact HB.out | apply below_alloc | apply pw_below_drewN | apply below_drew1) | exact HB.out))) : w.heap.size ≤ gb331)); have n4_ := Aside0.mk ((by rw [hg]; exact (below_size (by repeat (first | (with_reducible first | exact HB.out | apply below_alloc | apply pw_below_drewN | apply below_drew1) | exact HB.out))) : w.heap.size ≤ gb331)); clear HO_4; clear HB; have HO_4 := n0_; have HB := n1_; have BK331 := n2_; have GW331 := n3_; have GE331 := n4_; clear n0_ n1_ n2_ n3_ n4_; clear hb hbox hg; have hcz14_0 : w13.cell? ⟨gb331, 0, none⟩ = some (.int .i64 0) := (blk_cell BK331.out 0).trans rfl; have hcz14_1 : w13.cell? ⟨gb331, 1, none⟩ = some (.string (⟨#[]⟩ : ByteArray)) := (blk_cell BK331.out 1).trans rfl; have hcz14_2 : w13.cell? ⟨gb331, 2, none⟩ = some (.int .u64 0) := (blk_cell BK331.out 2).trans rfl; have hfz14_0 := blk_frozen BK331.out 0; have hfz14_1 := blk_frozen BK331.out 1; have hfz14_2 := blk_frozen BK331.out 2) | ((with_reducible refine gate_builtin (b := .append) (xs := #[.tmp 21, .tmp 23]) rfl ?_); at_builtin; refine Kd.R_append k36 (w0 := w) w.heap.size rfl (.tmp 21) (.tmp 23) 26 36 (.agg #[(.int .i64 0), (.string ⟨#[]⟩), (.int .u64 0)]) 32 rfl Try.underlying26 info36 rfl (by decide) (by omega) u4 x4_1 (⟨t327, t328, t329⟩ : S36) [.int .i64 t327, .string t328, .int .u64 t329] (fun k_ => k_ ≠ gb331) (fun _ => False) rfl (by first | (go_simp; done) | (go_simp; rfl)) ?aP (fun _ hk => hk.elim) ?aF ?aO ?aB ?aS ?aL ?_; (case aP => exact k36_mkM _ _ _ (⟨t327, t328, t329⟩ : S36)); (case aB => exact (by repeat (first | (with_reducible first | exact HB.out | apply below_alloc | apply pw_below_drewN | apply below_drew1 | refine below_set ?_ GE331.out) | exact HB.out))); (case aF => exact (fun k_ hk => Kd.freshB (g := gb331) (o := .cells #[.int .i64 t327, .string t328, .int .u64 t329] 36 (0, 0)) (by (with_reducible repeat (first | refine blk_drewN ?_ _ | refine blk_drew ?_ | refine blk_alloc ?_ _)); refine blk_put (cs := #[.int .i64 t327, .string t328, .int .u64 0]) ?_ 2 _ rfl; (with_reducible repeat (first | refine blk_drewN ?_ _ | refine blk_drew ?_ | refine blk_alloc ?_ _)); refine blk_put (cs := #[.int .i64 t327, .string (⟨#[]⟩ : ByteArray), .int .u64 0]) ?_ 1 _ rfl; (with_reducible repeat (first | refine blk_drewN ?_ _ | refine blk_drew ?_ | refine blk_alloc ?_ _)); refine blk_put (cs := #[.int .i64 0, .string (⟨#[]⟩ : ByteArray), .int .u64 0]) ?_ 0 _ rfl; (with_reducible repeat (first | refine blk_drewN ?_ _ | refine blk_drew ?_ | refine blk_alloc ?_ _)); exact BK331.out) k_ hk)); (case aO => exact (by (with_reducible repeat (first | apply Kd.R_alloc | apply Kd.R_drewN | apply Kd.R_drew)); exact Kd.R_mono (Kd.R_far (p := ⟨gb331, 2, none⟩) (Kd.R_far (p := ⟨gb331, 1, none⟩) (Kd.R_far (p := ⟨gb331, 0, none⟩) (Kd.R_mono HO_4.out (fun k_ hk => (⟨hk, hk.2⟩ : _ ∧ k_ ≠ gb331))) (fun _ hk => hk.2) (.int .i64 t327)) (fun _ hk => hk.2) (.string t328)) (fun _ hk => hk.2) (.int .u64 t329)) (fun _ hk => hk.1.2))); (case aS => exact (below_size (by repeat (first | (with_reducible first | exact HB.out | apply below_alloc | apply pw_below_drewN | apply below_drew1 | refine below_set ?_ GE331.out) | exact HB.out)))); (case aL => have := LMc9.out; omega); intro v333 w15 ho hb hg hat; rw [← Ny332.out] at ho; have n0_ := Aside0.mk (blk_grown (g := gb331) (o := .cells #[.int .i64 t327, .string t328, .int .u64 t329] 36 (0, 0)) (by (with_reducible repeat (first | refine blk_drewN ?_ _ | refine blk_drew ?_ | refine blk_alloc ?_ _)); refine blk_put (cs := #[.int .i64 t327, .string t328, .int .u64 0]) ?_ 2 _ rfl; (with_reducible repeat (first | refine blk_drewN ?_ _ | refine blk_drew ?_ | refine blk_alloc ?_ _)); refine blk_put (cs := #[.int .i64 t327, .string (⟨#[]⟩ : ByteArray), .int .u64 0]) ?_ 1 _ rfl; (with_reducible repeat (first | refine blk_drewN ?_ _ | refine blk_drew ?_ | refine blk_alloc ?_ _)); refine blk_put (cs := #[.int .i64 0, .string (⟨#[]⟩ : ByteArray), .int .u64 0]) ?_ 0 _ rfl; (with_reducible repeat (first | refine blk_drewN ?_ _ | refine blk_drew ?_ | refine blk_alloc ?_ _)); exact BK331.out) hg (Kd.R_away HO_4.out (fun _ hk => hk.2))); have n1_ := Aside0.mk (hb); have n2_ := Aside0.mk (ho); clear BK331; clear HB; clear HO_4; have BK331 := n0_; have HB := n1_; have HO334 := n2_; clear n0_ n1_ n2_; clear ho hb hg hat))
                  go_roundg k1
                  case measure => have := HK1.out; omega
                  case rel => exact ⟨(y332), (x5_1.extract (t330 : Int).toNat x5_1.size), (by first | rfl | (simp; done) | (simp [*]; done)), H', ⟨by have := HK1.out; omega⟩, ⟨by (with_reducible repeat (first | apply Kd.R_alloc | apply Kd.R_drewN | apply Kd.R_drew)); exact Kd.R_mono HO334.out (fun _ hk => trivial)⟩, ⟨by repeat (first | (with_reducible first | exact HB.out | apply below_alloc | apply pw_below_drewN | apply below_drew1 | refine below_set ?_ GE331.out) | exact HB.out)⟩⟩
                · rw [if_neg c11] at H
                  exact absurd H (by simp)
              · rw [if_neg c10] at H
                exact absurd H (by simp)
            · rw [if_neg c9] at H
              exact absurd H (by simp)

end Go.Proofs.Ytjkljhcfbgcgoaa.K
end
