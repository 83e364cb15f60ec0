-- Written by a program of this session (wip/tools/printfam.py) out of the translation; hand-proved contracts set in. Lean checks it.
import Derived.Test.YtjkljhcfbgcgoaaK0
namespace Go.Proofs.Ytjkljhcfbgcgoaa.K
open Go.RowKit Go.Proofs.YtjkljhcfbgcgoaaW.PrintWords Go.Proofs.YtjkljhcfbgcgoaaW.PrintLast Go.Proofs.YtjkljhcfbgcgoaaW.PrintMore
attribute [local go_sem] max2_int min2_int max_two min_two max_three min_three max_four min_four   -- for this text's walks alone
set_option linter.unusedVariables false
set_option linter.unusedSimpArgs false

/-! ### musterref01_After: function 14 -/
-- HAND
def refAfter (s : ByteArray) : Nat → ByteArray × Bool
  | 0 => (⟨#[]⟩, false)
  | n + 1 => if bt s n = 255 then refAfter s n else (strOfNums ((bytesOf s).take n ++ [bt s n + 1]), true)
theorem block_set (w : World) (b : Nat) (cs : Array Value) (T : TypeId) (f : Nat × Nat) (j : Nat) (v : Value) (h : w.heap[b]? = some (.cells cs T f)) : (w.setCell ⟨b, j, none⟩ v).heap[b]? = some (.cells (cs.setIfInBounds j v) T f) := by
  simp [World.setCell, Array.getElem?_modify, h]
theorem conv_new (w : World) (s : ByteArray) : ∃ (cap : Nat) (W1 : World) (C : Array Value), (convert 9 49 (.string s)).run Try.prog w = .ok (.slice (some ⟨w.heap.size, 0, none⟩) s.size cap) W1 ∧
    W1.heap[w.heap.size]? = some (.cells C 5 (C.size, C.size + 1)) ∧ s.size ≤ C.size ∧ (∀ j, j < s.size → C[j]? = some (.int .u8 (bt s j))) ∧ Below w.heap.size w W1 := by
  refine ⟨_, _, _, Lib.run_convert_string_bytes (P := Try.prog) w 9 49 5 s Try.underlying9 Try.underlying49 Try.underlying5, Lib.bytesWorld_at_new w 5 s, by unfold Lib.bytesCells; rw [Array.size_append, Array.size_map]; exact Nat.le_add_right _ _, ?_, ?_⟩
  · intro j hj
    have hj' : j < s.data.size := hj
    rw [Lib.bytesCells, Array.getElem?_append_left (by simpa using hj')]
    simp [hj', bt, hj]
    rfl
  · exact ⟨rfl, rfl, rfl, by rw [Lib.bytesWorld_size]; omega, fun k hk => Lib.bytesWorld_at_old w 5 s k hk⟩
theorem bt_extract (s : ByteArray) (n j : Nat) (hn : n ≤ s.size) (hj : j < n) : bt (s.extract 0 n) j = bt s j := by
  have h1 : j < (s.extract 0 n).size := by rw [ByteArray.size_extract]; omega
  have h2 : j < s.size := by omega
  have h3 : j < min n s.size := by omega
  simp [bt, h2, h3, ByteArray.getElem_extract]
theorem bytesOf_get (s : ByteArray) (j : Nat) (hj : j < s.size) : (bytesOf s)[j]? = some (bt s j) := by
  have hj' : j < s.data.size := hj
  simp [bytesOf, bt, hj, hj']
  rfl
def musterref01_After.f (a0 : ByteArray) : Option (ByteArray × Bool) := if a0.size ≤ 140737488351232 then some (refAfter a0 a0.size) else none
set_option maxHeartbeats 2000000 in
set_option maxRecDepth 100000 in
theorem musterref01_After.calls (a0 : ByteArray) (r1 : ByteArray) (r2 : Bool) (w : World) (h : musterref01_After.f a0 = some (r1, r2)) :
    Calls Try.prog 14 #[.string a0] w fun e w' => e = .returned (.tuple #[.string r1, .bool r2]) ∧ Below w.heap.size w w' := by
  unfold musterref01_After.f at h
  split at h
  case isFalse => simp at h
  rename_i hz
  have HF := Aside0.mk (Option.some.inj h)
  clear h
  have HB := Aside0.mk (Below.refl w.heap.size w)
  go_enter Try.func14, Try.ntmps14
  go_wp2_with fail
  go_loopg [4] a0.size (fun kq v4 w' => v4 = .int .i64 ((kq : Int) - 1) ∧ Aside0 (kq ≤ a0.size) ∧ Aside0 (refAfter a0 kq = (r1, r2)) ∧ Aside0 (Below w.heap.size w w'))
  case atStart => exact ⟨by simp, ⟨Nat.le_refl _⟩, HF, HB⟩
  case round =>
    obtain ⟨rfl, HJ, HR, HB⟩ := hrel
    cases gk with
    | zero =>
      have := HR.out
      simp only [refAfter, Prod.mk.injEq] at this
      obtain ⟨rfl, rfl⟩ := this
      go_wp2_with fail
      go_ret2
      exact ⟨rfl, HB.out⟩
    | succ n =>
      have hn : (n : Int) < (a0.size : Int) := by have := HJ.out; omega
      have hx6 : ∀ h : n < a0.size, ((a0[n]'h).toNat : Int) = bt a0 n := fun h => by simp [bt, h]
      have hbr := Aside0.mk (bt_range a0 n)
      have HR' := HR.out
      simp only [refAfter] at HR'
      by_cases hb : bt a0 n = 255
      · rw [if_pos hb] at HR'
        have HR2 := Aside0.mk HR'
        have hb0 : (bt a0 n != 255) = false := by simp [hb]
        clear hb HR' HR
        go_wp2_with fail
        go_roundg n
        case measure => omega
        case rel => exact ⟨rfl, ⟨by have := HJ.out; omega⟩, HR2, HB⟩
      · rw [if_neg hb] at HR'
        have HR2 := Aside0.mk HR'
        have hb0 : (bt a0 n != 255) = true := by simpa using hb
        have hb1 : bt a0 n ≤ 254 := by have := hbr.out; omega
        have hb2 : 0 ≤ bt a0 n := hbr.out.1
        clear hb HR' HR
        have hsz : (a0.extract 0 (n + 1)).size = n + 1 := by rw [ByteArray.size_extract]; have := HJ.out; omega
        obtain ⟨cap, W1, C, hcv, hblk, hC, hcs, hbel⟩ := conv_new wr (a0.extract 0 (n + 1))
        rw [hsz] at hcv hC hcs
        have HBLK := Aside0.mk hblk
        have HCS := Aside0.mk hcs
        have HB1 := Aside0.mk (below_step HB.out hbel)
        have HGE := Aside0.mk HB.out.size
        have c1 : W1.cell? ⟨wr.heap.size, n, none⟩ = some (.int .u8 (bt a0 n)) := by
          rw [Lib.cell_of_heap hblk, hcs n (by omega), bt_extract _ _ _ HJ.out (by omega)]
        have f1 : W1.frozen? ⟨wr.heap.size, n, none⟩ = false := by
          simp [World.frozen?, hblk]; omega
        have hcb := run_convert_bytes_arg (P := Try.prog) (W1.setCell ⟨wr.heap.size, n, none⟩ (.int .u8 (bt a0 n + 1))) 49 5 Try.underlying49 Try.underlying5 wr.heap.size 0 (n + 1) cap ((bytesOf a0).take n ++ [bt a0 n + 1]) (by simp [bytesOf]; have := HJ.out; omega) (by
          intro i hi
          rw [Nat.zero_add, Lib.cell_of_heap (block_set _ _ _ _ _ n _ hblk)]
          by_cases hin : i = n
          · subst hin
            have e : ((bytesOf a0).take i).length = i := by simp [bytesOf]; have := HJ.out; omega
            rw [Array.getElem?_setIfInBounds_self_of_lt (by omega), List.getD_eq_getElem?_getD, List.getElem?_append_right (by omega), e]
            simp
          · have hin2 : i < n := by omega
            have e : ((bytesOf a0).take n).length = n := by simp [bytesOf]; have := HJ.out; omega
            rw [Array.getElem?_setIfInBounds_ne (by omega), hcs i (by omega), bt_extract _ _ _ HJ.out (by omega), List.getD_eq_getElem?_getD, List.getElem?_append_left (by omega), List.getElem?_take_of_lt hin2, bytesOf_get _ _ (by have := HJ.out; omega)]
            rfl) 9 Try.underlying9
        clear hsz hblk hC hcs hbel
        generalize wr.heap.size = b at *
        go_wp2_with fail
        go_ret2
        exact ⟨by have := HR2.out; simp only [Prod.mk.injEq] at this; obtain ⟨rfl, rfl⟩ := this; rfl, below_set HB1.out HGE.out⟩


end Go.Proofs.Ytjkljhcfbgcgoaa.K
