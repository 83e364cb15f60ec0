/- joined: G7 G8 G9 G11 G12 G10 G13 TP15 Q2 G14 G17 G18 G19 G20 G21 -/
import Derived.Test.YtjhgknagmiekeaaGreatJR5
import Derived.Maps.Own
import Derived.Lib.SmallJoins
import Derived.Maps.OwnSet
import Derived.Shelf.SlIter.Nil
import Derived.Shelf.SortM.Plain
import Derived.Shelf.SortM.SortNone
import Derived.Shelf.SlLaysZ
import Derived.Shelf.SlLaysM
import Derived.Test.YtjhgknagmiekeaaGreatProg
import Derived.Test.YtjhgknagmiekeaaGreatJR4
set_option linter.unusedVariables false
set_option linter.unusedSimpArgs false
namespace Go.Proofs.YtjhgknagmiekeaaGreat.G
open Go.RowKit Go.Lib Go.Proofs Go.Conc
open Go.Proofs.YtjhgknagmiekeaaGreatW.PrintWords hiding Kept
open Go.Proofs.YtjhgknagmiekeaaGreat.T (Nd NdAt NdsAt LfAt Lf Row ptr ptrs Tr Fine leafPtr L Strs wayF)
def fireK (w0 : World) (root : Nd) (s : (Nat → Bool) × Int) (k : ByteArray) : (Nat → Bool) × Int := wayF (stepW w0 k) k (k.size + 2) (some root) 0 s
def fireAll (w0 : World) (root : Nd) (ks : List ByteArray) : (Nat → Bool) × Int := ks.foldl (fireK w0 root) (fun _ => false, 0)
theorem shot_alloc {w0 w : World} {S : Nat → Bool} (h : Shot w0 w S) (o : Obj) : Shot w0 (w.alloc o) S :=
  ⟨fun c d hw => (h.watch c d hw).move (Below.heap_alloc _ _ _ (Array.getElem?_eq_some_iff.1 (h.watch c d hw).obj).1) (Below.heap_alloc _ _ _ (Array.getElem?_eq_some_iff.1 (h.watch c d hw).ch).1), fun k hk hs => (Below.heap_alloc _ _ _ (Nat.lt_of_lt_of_le hk h.size)).trans (h.far k hk hs), by rw [World.size_alloc]; exact Nat.le_succ_of_le h.size, fun B h1 h2 => (h.below B h1 h2).alloc (Nat.le_trans h1 h.size) o⟩
theorem strs_far {p : TypeId → Bool} (h9 : p 9 = false) {w w' : World} (h : FarP p w w') {A : Option Addr} {ks : List ByteArray} (hs : ∀ i (hi : i < ks.length), ∃ ad cs fr, A = some ad ∧ w.heap[ad.block]? = some (.cells cs 9 fr)) (hk : Strs w A ks) : Strs w' A ks := fun i hi => by
  obtain ⟨ad, e, hc⟩ := hk i hi
  obtain ⟨ad', cs, fr, e', hb⟩ := hs i hi
  rw [e] at e'
  cases e'
  exact ⟨ad, e, (World.cell?_of_block (a := ad.add i) (by rw [add_block]; exact (h _ _ _ _ hb h9).trans hb.symm)).trans hc⟩
theorem run_store_fn {P : Program} {w : World} {a : Addr} {m : Mode} (f : Fn) (x y : Array Value) : (store a (.func f x y) m).run P w = stored P w a (.func f x y) m := run_store P w a _ m rfl
attribute [local go_sem] run_store_fn
set_option maxRecDepth 100000 in
set_option maxHeartbeats 4000000 in
theorem fireTree (w : World) (tb : Nat) (root : Nd) (ht : Tr w tb root) (hM : Mks w root) (A : Option Addr) (c : Nat) (ks : List ByteArray) (hA : Strs w A ks) (hAt : ∀ i (hi : i < ks.length), ∃ ad cs fr, A = some ad ∧ w.heap[ad.block]? = some (.cells cs 9 fr)) (hn : ks.length < 4000000000000) (hs : ∀ k ∈ ks, k.size < 4000000000000) :
    Calls Tryz.prog 67 #[ptr tb, .slice A ks.length c] w fun e w' => e = .returned (.int .i64 (fireAll w root ks).2) ∧ Shot w w' (fireAll w root ks).1 := by
  have HT := Aside0.mk (And.intro ht hM)
  have HS := Aside0.mk (And.intro hs (And.intro hA hAt))
  obtain ⟨n, en⟩ : ∃ n, ks.length = n := ⟨_, rfl⟩
  have HN := Aside0.mk en
  rw [en] at hn ⊢
  clear ht hM hA hAt hs en
  have hmf : ∀ (fn : Fn) (first cap : Array Value) (w : World), (Instr.makeFunc fn first cap).run Tryz.prog w = .ok (.func fn first cap) w := fun _ _ _ _ => rfl
  unfold ptr
  go_enter Tryz.func67, Tryz.ntmps67
  go_upto_region 3 with fail
  obtain ⟨B1, eB1⟩ : ∃ B1, w.heap.size = B1 := ⟨_, rfl⟩
  have HB1 := Aside0.mk eB1
  obtain ⟨W0, eW0⟩ : ∃ W0, (w.alloc (.cells #[.int .i64 0] 3)).alloc (.cells #[.func (.func 100) #[] #[ptr B1]] 187) = W0 := ⟨_, rfl⟩
  have H0 : Aside0 (Shot w W0 (fun _ => false) ∧ W0.heap[B1]? = some (.cells #[.int .i64 0] 3 (0, 0)) ∧ W0.heap[B1 + 1]? = some (.cells #[.func (.func 100) #[] #[ptr B1]] 187 (0, 0)) ∧ B1 + 1 < W0.heap.size) := by
    rw [← eW0]
    refine ⟨shot_alloc (shot_alloc (Shot.refl w) _) _, ?_, ?_, by rw [World.size_alloc, World.size_alloc]; omega⟩
    · rw [← eB1]; exact (Below.heap_alloc _ _ _ (by rw [World.size_alloc]; omega)).trans (heap_alloc_new w _)
    · have := heap_alloc_new (w.alloc (.cells #[.int .i64 0] 3)) (.cells #[.func (.func 100) #[] #[ptr B1]] 187)
      rwa [World.size_alloc, eB1] at this
  have HE0 := Aside0.mk eW0
  rw [eB1]
  have HK : Aside0 (Below w.heap.size w W0) := ⟨by rw [← eW0]; exact ((Below.refl _ w).alloc (Nat.le_refl _) _).alloc (by rw [World.size_alloc]; omega) _⟩
  have e9 : (w.alloc (.cells #[.int .i64 0] 3)).alloc (.cells #[.func (.func 100) #[] #[.pointer (some ⟨B1, 0, none⟩)]] 187) = W0 := eW0
  rw [e9]
  clear e9 eW0 eB1
  go_wp2_with fail
  go_loopg [12] (n + 1) (fun kq v12 W => ∃ (j : Nat) (s : (Nat → Bool) × Int), v12 = .int .i64 (j : Int) ∧ Aside0 (j + kq = n + 1 ∧ j ≤ n) ∧ Aside0 (Shot w W s.1 ∧ W.heap[B1]? = some (.cells #[.int .i64 s.2] 3 (0, 0)) ∧ W.heap[B1 + 1]? = some (.cells #[.func (.func 100) #[] #[ptr B1]] 187 (0, 0))) ∧ Aside0 (s = (ks.take j).foldl (fireK w root) (fun _ => false, 0)))
  case atStart => exact ⟨0, (fun _ => false, 0), rfl, ⟨by omega, Nat.zero_le _⟩, ⟨H0.out.1, H0.out.2.1, H0.out.2.2.1⟩, ⟨rfl⟩⟩
  case round =>
    obtain ⟨j, s, rfl, HI, HV, HF⟩ := hrel
    by_cases hj : j < n
    · have hj' : j < ks.length := by rw [HN.out]; exact hj
      obtain ⟨ad, ea, hk0⟩ := strs_far rfl HV.out.1.farP HS.out.2.2 HS.out.2.1 j hj'
      obtain ⟨k, ek⟩ : ∃ k, ks[j] = k := ⟨_, rfl⟩
      rw [ek] at hk0
      have hks : k.size < 4000000000000 := HS.out.1 k (by rw [← ek]; exact List.getElem_mem _)
      subst ea
      obtain ⟨G, eG⟩ : ∃ G, wr.heap.size = G := ⟨_, rfl⟩
      obtain ⟨W1, eW1⟩ : ∃ W1, wr.alloc (.cells #[.string k] 9) = W1 := ⟨_, rfl⟩
      have hG : B1 + 1 < G := by rw [← eG]; exact (Array.getElem?_eq_some_iff.1 HV.out.2.2).1
      have hst := shot_alloc HV.out.1 (.cells #[.string k] 9)
      have hkey : W1.heap[G]? = some (.cells #[.string k] 9 (0, 0)) := by rw [← eW1, ← eG]; exact heap_alloc_new wr _
      rw [eW1] at hst
      have hinv : InvF w k B1 (B1 + 1) G s W1 := ⟨hst, by rw [← eW1]; exact (Below.heap_alloc _ _ _ (by omega)).trans HV.out.2.1, by rw [← eW1]; exact (Below.heap_alloc _ _ _ (by omega)).trans HV.out.2.2, hkey⟩
      have hrt : W1.cell? ⟨tb, 0, none⟩ = some (.pointer (some ⟨root.b, 0, none⟩)) := by rw [blk_cell (hst.farP _ _ _ _ HT.out.1.at_.blk rfl)]; rfl
      have q1 := Aside0.mk (T.way107 (stepW w k) (InvF w k B1 (B1 + 1) G) (FarP (fun t => t == 153) w) (Mks w) (B1 + 1) G w W1 tb root _ k s hks hst.farP HT.out.1.at_ HT.out.1.fine.ok HT.out.1.fine.sm HT.out.1.fine.top hinv HT.out.2 (fun x hx => hx.kid) hrt (fun w1 hR x hx => FarP.nd rfl rfl rfl hR x hx)
        (fun s' x a w1 hR hI hx hp ha => (call107 w k B1 (B1 + 1) G (Nat.le_of_eq HB1.out) (by omega) hG s' x a w1 hI hx hp ha hks).mono (fun e w' ⟨h1, h2⟩ => ⟨h1, h2, h2.shot.farP⟩)))
      have ck : W1.cell? ⟨G, 0, none⟩ = some (.string k) := by rw [blk_cell hkey]; rfl
      have HTK : Aside0 (ks.take (j + 1) = ks.take j ++ [k]) := ⟨by rw [List.take_add_one, List.getElem?_eq_getElem hj', ek]; rfl⟩
      have HEW := Aside0.mk (And.intro eW1 eG)
      clear hst hkey hinv hrt eW1 ek hj' hks eG hG
      unfold ptr at q1
      go_upto_region 6 with fail
      rw [HEW.out.1, HEW.out.2]
      clear hk0
      go_wp2_with (go_at_call 68; refine q1.out.mono ?_)
      rintro e w2 ⟨rfl, h2, -⟩
      have H2 := Aside0.mk h2
      clear h2 q1 ck
      go_wp2_with fail
      go_roundg (n - j)
      case measure => have := HI.out; omega
      case rel =>
        refine ⟨j + 1, fireK w root s k, by simp, ⟨by have := HI.out; omega⟩, ⟨H2.out.shot, H2.out.cnt, H2.out.fn⟩, ⟨?_⟩⟩
        rw [HTK.out, List.foldl_append, ← HF.out]
        rfl
    · have hin : j = n := by have := HI.out; omega
      subst hin
      have c1 : wr.cell? ⟨B1, 0, none⟩ = some (.int .i64 s.2) := by rw [blk_cell HV.out.2.1]; rfl
      go_wp2_with fail
      go_ret
      have e2 : fireAll w root ks = s := by
        unfold fireAll
        rw [HF.out, ← HN.out, List.take_length]
      rw [e2]
      exact ⟨rfl, HV.out.1⟩
end Go.Proofs.YtjhgknagmiekeaaGreat.G
set_option linter.unusedVariables false
set_option linter.unusedSimpArgs false
namespace Go.Proofs.YtjhgknagmiekeaaGreat.G
open Go.RowKit Go.Lib Go.Proofs Go.Conc
open Go.Proofs.YtjhgknagmiekeaaGreatW.PrintWords hiding Kept
open Go.Proofs.YtjhgknagmiekeaaGreat.T (Nd NdAt ptr Tr L)
section
variable {P : Program} {f : FuncId} {fn : Func}
theorem run_load_ptr (hf : P.funcs[f]? = some fn) (hname : (fn.name == "runtime.NumGoroutine") = false) (hb : fn.body.isNone = true) (hn : Extern.findNext fn = none)
    (he : Extern.find fn = some (Extern.Atomic.loadT .ptr)) {a : Addr} {p : Option Addr} {w : World} (hc : w.cell? a = some (.pointer p)) :
    (callFunc f #[.pointer (some a)]).run P w = .ok (.value (.pointer p)) w := by
  rw [run_callFunc_extern hf hname hb hn he]
  change (Sem.run P (do Extern.Atomic.read .ptr (← asAddr (.pointer (some a)))) w).andThen _ = _
  simp [Extern.Atomic.read, asAddr, hc, Result.andThen]
theorem run_store_ptr (hf : P.funcs[f]? = some fn) (hname : (fn.name == "runtime.NumGoroutine") = false) (hb : fn.body.isNone = true) (hn : Extern.findNext fn = none)
    (he : Extern.find fn = some Extern.Atomic.storeT) {a : Addr} {p : Option Addr} {u : Value} {w : World} (hc : w.cell? a = some u) (hz : w.frozen? a = false) :
    (callFunc f #[.pointer (some a), .pointer p]).run P w = .ok (.value (.tuple #[])) (w.setCell a (.pointer p)) := by
  rw [run_callFunc_extern hf hname hb hn he]
  change (Sem.run P (do
    store (← asAddr (.pointer (some a))) (.pointer p) .atomic
    pure Extern.Atomic.none_) w).andThen _ = _
  simp [asAddr, hc, hz, run_store P w a (.pointer p) .atomic rfl, Result.andThen, Extern.Atomic.none_]
end
theorem lies : liesAt Tryz.prog Tryz.prog.depth 102 (2 / Tryz.prog.cellsOf 102) 0 102 1 = true := by kernel_rfl
theorem size194 : (Tryz.prog.info? 102).map (fun i => decide (i.size = 0)) = some false := by kernel_rfl
theorem conv_from (v : Nat) (x y : Value) (w : World) (hb : w.heap[v]? = some (.cells #[x, y] 102 (0, 0))) : (convert 89 85 (.pointer (some ⟨v, 0, none⟩))).run Tryz.prog w = .ok (.pointer (some ⟨v, 0, none⟩)) w := by
  have hsh : w.shape? v = some (102, 2) := by unfold World.shape?; rw [hb]; rfl
  obtain ⟨i, hi, hz0⟩ := Option.map_eq_some_iff.1 size194
  have hz : i.size ≠ 0 := by simpa using hz0
  have hl := lies
  simp [convert, Conv.unsafePointer, Conv.seenAt, viewAt, cellsIn, sizeOf, typeInfo, run_underlying Tryz.underlying89, run_underlying Tryz.underlying85, hi, hz, hsh, hb, variablesAt, hl, Result.andThen]
theorem conv_to (v : Nat) (x y : Value) (w : World) (hb : w.heap[v]? = some (.cells #[x, y] 102 (0, 0))) : (convert 85 89 (.pointer (some ⟨v, 0, none⟩))).run Tryz.prog w = .ok (.pointer (some ⟨v, 0, none⟩)) w :=
  run_convert_to_unsafe (P := Tryz.prog) (src := 85) (dst := 89) Tryz.underlying85 Tryz.underlying89 (by kernel_rfl) (v := x) (by rw [blk_cell hb]; rfl)
set_option maxRecDepth 100000 in
set_option maxHeartbeats 1600000 in
theorem loadPtr (b v : Nat) (x y : Value) (w : World) (hc : w.cell? ⟨b, 0, none⟩ = some (ptr v)) (hb : w.heap[v]? = some (.cells #[x, y] 102 (0, 0))) :
    Calls Tryz.prog 36 #[ptr b] w fun e w' => e = .returned (ptr v) ∧ w' = w := by
  have hl := run_load_ptr (P := Tryz.prog) Tryz.func71 (by kernel_rfl) (by kernel_rfl) (by kernel_rfl) (by kernel_rfl) hc
  have hv := conv_from v x y w hb
  clear hb
  unfold ptr at hc hl ⊢
  go_enter Tryz.func36, Tryz.ntmps36
  go_wp2
  go_ret
  exact ⟨rfl, rfl⟩
set_option maxRecDepth 100000 in
set_option maxHeartbeats 1600000 in
theorem storePtr (b v : Nat) (x y u : Value) (w : World) (hc : w.cell? ⟨b, 0, none⟩ = some u) (hz : w.frozen? ⟨b, 0, none⟩ = false) (hb : w.heap[v]? = some (.cells #[x, y] 102 (0, 0))) :
    Calls Tryz.prog 34 #[ptr b, ptr v] w fun e w' => e = .returned (.tuple #[]) ∧ w' = w.setCell ⟨b, 0, none⟩ (ptr v) := by
  have hst := run_store_ptr (P := Tryz.prog) Tryz.func70 (by kernel_rfl) (by kernel_rfl) (by kernel_rfl) (by kernel_rfl) (p := some ⟨v, 0, none⟩) hc hz
  have hv := conv_to v x y w hb
  clear hb
  unfold ptr
  go_enter Tryz.func34, Tryz.ntmps34
  go_wp2
  go_end0
  exact ⟨rfl, rfl⟩
structure BaseAt (w : World) (b v tb : Nat) (n : Int) (held : Bool) : Prop where
  base : w.heap[b]? = some (.cells #[ptr v, .int .i32 (if held then 1 else 0), .int .u32 0] 99 (0, 0))
  ver : w.heap[v]? = some (.cells #[ptr tb, .int .u64 n] 102 (0, 0))
set_option maxRecDepth 100000 in
set_option maxHeartbeats 1600000 in
theorem baseTree (w : World) (b v tb : Nat) (n : Int) (held : Bool) (h : BaseAt w b v tb n held) : Calls Tryz.prog 12 #[ptr b] w fun e w' => e = .returned (ptr tb) ∧ w' = w := by
  have c0 : w.cell? ⟨b, 0, none⟩ = some (ptr v) := by rw [blk_cell h.base]; rfl
  have q := Aside0.mk (loadPtr b v _ _ w c0 h.ver)
  have v0 : w.cell? ⟨v, 0, none⟩ = some (ptr tb) := by rw [blk_cell h.ver]; rfl
  clear h c0
  unfold ptr at q v0 ⊢
  go_enter Tryz.func12, Tryz.ntmps12
  go_wp2_with (first | (go_at_call 36; refine q.out.mono ?_; rintro e w' ⟨rfl, hw⟩; subst hw))
  go_ret
  exact ⟨rfl, rfl⟩
set_option maxRecDepth 100000 in
set_option maxHeartbeats 1600000 in
theorem baseVersion (w : World) (b v tb : Nat) (n : Int) (held : Bool) (h : BaseAt w b v tb n held) : Calls Tryz.prog 11 #[ptr b] w fun e w' => e = .returned (.int .u64 n) ∧ w' = w := by
  have c0 : w.cell? ⟨b, 0, none⟩ = some (ptr v) := by rw [blk_cell h.base]; rfl
  have q := Aside0.mk (loadPtr b v _ _ w c0 h.ver)
  have v0 : w.cell? ⟨v, 1, none⟩ = some (.int .u64 n) := by rw [blk_cell h.ver]; rfl
  clear h c0
  unfold ptr at q ⊢
  go_enter Tryz.func11, Tryz.ntmps11
  go_wp2_with (first | (go_at_call 36; refine q.out.mono ?_; rintro e w' ⟨rfl, hw⟩; subst hw))
  go_ret
  exact ⟨rfl, rfl⟩
end Go.Proofs.YtjhgknagmiekeaaGreat.G
set_option linter.unusedVariables false
set_option linter.unusedSimpArgs false
namespace Go.Proofs.YtjhgknagmiekeaaGreat.G
open Go.RowKit Go.Lib Go.Proofs Go.Conc
open Go.Proofs.YtjhgknagmiekeaaGreatW.PrintWords hiding Kept
open Go.Proofs.YtjhgknagmiekeaaGreatW.PrintLast
open Go.Proofs.YtjhgknagmiekeaaGreat.T (Nd NdAt ptr Tr L emptyN TrAt NewMark)
theorem newMark_at {B : Nat} {w : World} {m : Value} (h : NewMark B w m) : ∃ c, m = ptr (c + 1) ∧ B ≤ c ∧ WatchAt w (c + 1) c false := by
  obtain ⟨c, h1, h2, h3, h4⟩ := h
  exact ⟨c, h1, h2, h4, h3⟩
def nw2_T : Bool × List (List Nat × List Nat) := (true, [([], []), ([0], [0]), ([1], [1]), ([], []), ([3], [3]), ([4], [4]), ([2, 5, 3], [2, 5])])
def nw2_B : List Nat := [0, 1, 3, 0, 8, 24, 63]
theorem nw2_bits : waitsOk nw2_T.2 nw2_B = true := by kernel_rfl
theorem nw2_tab : rtab .any (opsOf Tryz.f9 2) = nw2_T := by kernel_rfl
attribute [local go_sem] Oper.semAt_some
set_option maxRecDepth 100000 in
set_option maxHeartbeats 4000000 in
theorem newB (w : World) : Calls Tryz.prog 9 #[] w fun e w' => ∃ b v tb nb c, e = .returned (ptr b) ∧ BaseAt w' b v tb 0 false ∧ TrAt w' tb (emptyN nb (ptr (c + 1))) 0 ∧ WatchAt w' (c + 1) c false ∧ w.heap.size ≤ b ∧ w.heap.size ≤ v ∧ w.heap.size ≤ c ∧ Below w.heap.size w w' := by
  have q1 := Aside0.mk (fun W => T.treeNew W)
  obtain ⟨B, eB⟩ : ∃ B, w.heap.size = B := ⟨_, rfl⟩
  have HB := Aside0.mk eB
  obtain ⟨W0, eW0⟩ : ∃ W0, w.alloc (.cells #[.pointer none, .int .i32 0, .int .u32 0] 99) = W0 := ⟨_, rfl⟩
  have H0 : Aside0 (W0.heap[B]? = some (.cells #[.pointer none, .int .i32 0, .int .u32 0] 99 (0, 0)) ∧ Below w.heap.size w W0 ∧ B < W0.heap.size) := ⟨by rw [← eW0, ← eB]; exact heap_alloc_new w _, by rw [← eW0]; exact (Below.refl _ w).alloc (Nat.le_refl _) _, by rw [← eW0, World.size_alloc]; omega⟩
  have HE := Aside0.mk eW0
  unfold ptr at q1
  clear eW0
  go_enter Tryz.func9, Tryz.ntmps9
  go_upto_region 2 with fail
  rw [HE.out]
  clear eB HE
  refine start_ (n := 7) (S := (fun _ : World => True)) (ds := [6]) #[false, false, false, false, false, false, false] (by kernel_rfl) rfl rfl trivial (fun hHeld => ?_); refine with_tabW nw2_tab nw2_bits (fun HT_ HW_ => ?_)
  refine pure_ (i := 0) (N := some 4) (v := ?_) (a' := ?_) #[true, false, false, false, false, false, false] rfl rfl (any_of HT_.out (by kernel_rfl)) (fun _ _ _ h => h) (Or.inl ⟨by rfl, ?_⟩) ?_ ?_
  rotate_left
  · intro w'
    go_simp
    with_reducible rfl
  rotate_left
  · simp only [Act.put, List.setIfInBounds_toArray, List.set_cons_zero, List.set_cons_succ, i64_w, i32_w]
    rfl
  refine pure_ (i := 1) (N := some 5) (v := ?_) (a' := ?_) #[true, true, false, false, false, false, false] rfl rfl (any_of HT_.out (by kernel_rfl)) (fun _ _ _ h => h) (Or.inl ⟨by rfl, ?_⟩) ?_ ?_
  rotate_left
  · intro w'
    go_simp
    with_reducible rfl
  rotate_left
  · simp only [Act.put, List.setIfInBounds_toArray, List.set_cons_zero, List.set_cons_succ, i64_w, i32_w]
    rfl
  refine pure_ (i := 2) (N := some 6) (v := ?_) (a' := ?_) #[true, true, true, false, false, false, false] rfl rfl (any_of HT_.out (by kernel_rfl)) (fun _ _ _ h => h) (Or.inl ⟨by rfl, ?_⟩) ?_ ?_
  rotate_left
  · intro w'
    go_simp
    with_reducible rfl
  rotate_left
  · simp only [Act.put, List.setIfInBounds_toArray, List.set_cons_zero, List.set_cons_succ, i64_w, i32_w]
    rfl
  refine one_ (i := 3) (N := some 7) #[true, true, true, true, false, false, false] rfl rfl (one_of HT_.out (by kernel_rfl)) (by decide) (fun K hK => ?_)
  refine goes_ Tryz.func35 (by kernel_rfl) rfl #[] (by rfl) rfl rfl (by (try simp only [List.map_toArray, List.map_cons, List.map_nil]); first | done | rfl) ?_
  refine (q1.out _).mono ?_
  rintro e w1 ⟨tb, nb, m, rfl, htr, hm, -, -, hb1⟩
  obtain ⟨c, rfl, hc, hwa⟩ := newMark_at hm
  have H1 := Aside0.mk (And.intro htr (And.intro hc (And.intro hwa hb1)))
  clear htr hm hc hwa hb1
  refine ⟨_, rfl, ?_⟩
  clear hHeld
  refine hK.out _ _ trivial (fun hHeld => ?_)
  clear hK K
  refine norm_ (a' := ?_) ?_ ?_
  rotate_left
  · show Act.put _ (some 7) _ = _
    simp only [Act.put, List.setIfInBounds_toArray, List.set_cons_zero, List.set_cons_succ, i64_w, i32_w]
    rfl
  refine pure_ (i := 4) (N := some 8) (v := ?_) (a' := ?_) #[true, true, true, true, true, false, false] rfl rfl (any_of HT_.out (by kernel_rfl)) (fun _ _ _ h => h) (Or.inl ⟨by rfl, ?_⟩) ?_ ?_
  rotate_left
  · intro w'
    go_simp
    with_reducible rfl
  rotate_left
  · simp only [Act.put, List.setIfInBounds_toArray, List.set_cons_zero, List.set_cons_succ, i64_w, i32_w]
    rfl
  refine one_ (i := 5) (N := some 9) #[true, true, true, true, true, true, false] rfl rfl (one_of HT_.out (by kernel_rfl)) (by decide) (fun K hK => ?_)
  refine value_ (w1 := w1.alloc (.cells #[.pointer (some ⟨tb, 0, none⟩), .int .u64 0] 102)) (v := .pointer (some ⟨w1.heap.size, 0, none⟩)) (by rfl) rfl (by go_simp) ?_
  clear hHeld
  refine hK.out _ _ trivial (fun hHeld => ?_)
  clear hK K
  refine norm_ (a' := ?_) ?_ ?_
  rotate_left
  · show Act.put _ (some 9) _ = _
    simp only [Act.put, List.setIfInBounds_toArray, List.set_cons_zero, List.set_cons_succ, i64_w, i32_w]
    rfl
  obtain ⟨V, eV⟩ : ∃ V, w1.heap.size = V := ⟨_, rfl⟩
  obtain ⟨W2, eW2⟩ : ∃ W2, w1.alloc (.cells #[.pointer (some ⟨tb, 0, none⟩), .int .u64 0] 102) = W2 := ⟨_, rfl⟩
  have hb2 : Below w1.heap.size w1 W2 := by rw [← eW2]; exact (Below.refl _ w1).alloc (Nat.le_refl _) _
  have hv2 : W2.heap[V]? = some (.cells #[.pointer (some ⟨tb, 0, none⟩), .int .u64 0] 102 (0, 0)) := by rw [← eW2, ← eV]; exact heap_alloc_new w1 _
  have hob := (H1.out.2.2.2.block B H0.out.2.2).trans H0.out.1
  have hob2 := (hb2.block _ (Array.getElem?_eq_some_iff.1 hob).1).trans hob
  have hbV : B < V := by rw [← eV]; exact (Array.getElem?_eq_some_iff.1 hob).1
  have q2 := Aside0.mk (storePtr B V _ _ (.pointer none) W2 (by rw [blk_cell hob2]; rfl) (blk_frozen hob2 0) hv2)
  have H2 := Aside0.mk (And.intro hb2 (And.intro hv2 (And.intro hob2 hbV)))
  have HEV := Aside0.mk eV
  rw [eW2, eV]
  clear hb2 hv2 hob hob2 hbV eW2 eV
  unfold ptr at q2
  refine last_ (i := 6) (N := some 10) #[true, true, true, true, true, true, true] rfl rfl (one_of HT_.out (by kernel_rfl)) (by decide) (fun K hK => ?_)
  refine goes_ Tryz.func34 (by kernel_rfl) rfl #[.pointer (some ⟨B, 0, none⟩), .pointer (some ⟨V, 0, none⟩)] (by rfl) rfl rfl (by (try simp only [List.map_toArray, List.map_cons, List.map_nil]); first | done | rfl) ?_
  refine q2.out.mono ?_
  rintro e w3 ⟨rfl, hw3⟩
  have HW3 := Aside0.mk hw3
  clear hw3 hHeld
  refine ⟨_, rfl, ?_⟩
  refine hK.out _ _ ?_
  clear hK K
  refine done_ (done_of HT_.out (by kernel_rfl)) ?_
  clear q1 q2 HT_ HW_
  go_wp2_with fail
  go_ret
  have hw3 := HW3.out
  subst hw3
  have hfar : ∀ k, k ≠ B → (W2.setCell ⟨B, 0, none⟩ (ptr V)).heap[k]? = W2.heap[k]? := fun k hk => Below.heap_setCell _ _ _ k hk
  have hfp : FarP (fun t => t == 99) W2 (W2.setCell ⟨B, 0, none⟩ (ptr V)) := fun k cs t fr hk ht => (hfar k (fun e => by
    subst e
    rw [H2.out.2.2.1] at hk
    injection hk with e1
    injection e1 with _ e2 _
    rw [← e2] at ht
    cases ht)).trans hk
  have hbB := HB.out
  have hch : ∀ k o, W2.heap[k]? = some o → k ≠ B → (W2.setCell ⟨B, 0, none⟩ (ptr V)).heap[k]? = some o := fun k o h1 h2 => (hfar k h2).trans h1
  have hc1 := H1.out.2.2.1
  have hcW0 : W0.heap.size ≤ c := H1.out.2.1
  have hBW := H0.out.2.2
  refine ⟨B, V, tb, nb, c, rfl, ⟨set_atG H2.out.2.2.1 0 _, hch V _ H2.out.2.1 (by have := H2.out.2.2.2; omega)⟩, ⟨hfp _ _ _ _ (T.Kept.at (T.Kept.of H2.out.1) H1.out.1.blk) rfl, FarP.nd rfl rfl rfl hfp _ (T.NdAt.keep (T.Kept.of H2.out.1) _ H1.out.1.root)⟩, ⟨hch _ _ (T.Kept.at (T.Kept.of H2.out.1) hc1.obj) (by omega), hch _ _ (T.Kept.at (T.Kept.of H2.out.1) hc1.ch) (by omega)⟩, by omega, by have := H2.out.2.2.2; omega, by omega, ?_⟩
  exact below_put (T.belowAt (T.belowAt (below_drew H0.out.2.1) H1.out.2.2.2) H2.out.1) B 0 (by omega) _
end Go.Proofs.YtjhgknagmiekeaaGreat.G
set_option linter.unusedVariables false
set_option linter.unusedSimpArgs false
namespace Go.Proofs.YtjhgknagmiekeaaGreat.G
open Go.RowKit Go.Lib Go.Proofs Go.Conc
open Go.Proofs.YtjhgknagmiekeaaGreatW.PrintWords hiding Kept
open Go.Proofs.YtjhgknagmiekeaaGreat.T
theorem mks_mk {b : Nat} {label : ByteArray} {leaf : Option Lf} {kids : List Nd} {mark m : Value} : m ∈ mks (.mk b label leaf kids mark) ↔ m = mark ∨ (∃ l, leaf = some l ∧ m = l.mark) ∨ ∃ k ∈ kids, m ∈ mks k := by
  rw [mks_eq]
  show m ∈ mark :: ((leaf.map (fun l => l.mark)).toList ++ mkss kids) ↔ _
  rw [List.mem_cons, List.mem_append, mkss_mem]
  cases leaf <;> simp
theorem mks_of (n : Nd) {m : Value} : m ∈ mks n ↔ m = n.mark ∨ (∃ l, n.leaf = some l ∧ m = l.mark) ∨ ∃ k ∈ n.kids, m ∈ mks k := by
  cases n; exact mks_mk
theorem mks_tip {rest : ByteArray} {l : Lf} {s : Nat × Value} {m : Value} (h : m ∈ mks (tipN rest l s)) : m = s.2 ∨ m = l.mark := by
  rcases mks_mk.1 h with h | ⟨l', h1, h2⟩ | ⟨k, h1, h2⟩
  · exact .inl h
  · cases h1; exact .inr h2
  · cases h1
theorem mks_low {k : Nd} {p b : Nat} {m : Value} (h : m ∈ mks (lowN k p b)) : m ∈ mks k := by
  rw [mks_of]
  exact mks_mk.1 h
theorem mks_split {k : Nd} {p : Nat} {rest : ByteArray} {l : Lf} {ns : Sup} {m : Value} (h : m ∈ mks (splitN k p rest l ns)) : m ∈ mks k ∨ m = l.mark ∨ ∃ j, m = (ns j).2 := by
  unfold splitN at h
  split at h
  · rcases mks_mk.1 h with h | ⟨l', h1, h2⟩ | ⟨x, h1, h2⟩
    · exact .inr (.inr ⟨_, h⟩)
    · cases h1; exact .inr (.inl h2)
    · rw [List.mem_singleton] at h1; subst h1; exact .inl (mks_low h2)
  · rcases mks_mk.1 h with h | ⟨l', h1, h2⟩ | ⟨x, h1, h2⟩
    · exact .inr (.inr ⟨_, h⟩)
    · cases h1
    · rcases mem_insAt h1 with e | e
      · subst e
        rcases mks_tip h2 with h3 | h3
        · exact .inr (.inr ⟨_, h3⟩)
        · exact .inr (.inl h3)
      · rw [List.mem_singleton] at e; subst e; exact .inl (mks_low h2)
theorem mks_ins : ∀ (N : Nat) (rest : ByteArray), rest.size ≤ N → ∀ (n : Nd) (l : Lf) (ns : Sup) (m : Value), m ∈ mks (insN n rest l ns) → m ∈ mks n ∨ m = l.mark ∨ ∃ j, m = (ns j).2 := by
  intro N
  induction N with
  | zero =>
    intro rest hN n l ns m h
    rw [insN, dif_pos (by omega)] at h
    rcases mks_mk.1 h with h | ⟨l', h1, h2⟩ | ⟨k, h1, h2⟩
    · exact .inr (.inr ⟨_, h⟩)
    · cases h1; exact .inr (.inl h2)
    · exact .inl (mks_kid h1 h2)
  | succ N ih =>
    intro rest hN n l ns m h
    rw [insN] at h
    split at h
    · rcases mks_mk.1 h with h | ⟨l', h1, h2⟩ | ⟨k, h1, h2⟩
      · exact .inr (.inr ⟨_, h⟩)
      · cases h1; exact .inr (.inl h2)
      · exact .inl (mks_kid h1 h2)
    · split at h
      · rcases mks_mk.1 h with h | ⟨l', h1, h2⟩ | ⟨k, h1, h2⟩
        · exact .inr (.inr ⟨_, h⟩)
        · exact .inl (by rw [h2]; exact mks_leaf h1)
        · rcases mem_insAt h1 with e | e
          · subst e
            rcases mks_tip h2 with h3 | h3
            · exact .inr (.inr ⟨_, h3⟩)
            · exact .inr (.inl h3)
          · exact .inl (mks_kid e h2)
      · rename_i k e
        obtain ⟨hh, hlt, ek⟩ := kidN_some e
        have hkm : k ∈ n.kids := by rw [← ek]; exact List.getElem_mem _
        split at h
        · rcases mks_mk.1 h with h | ⟨l', h1, h2⟩ | ⟨x, h1, h2⟩
          · exact .inr (.inr ⟨_, h⟩)
          · exact .inl (by rw [h2]; exact mks_leaf h1)
          · rcases List.mem_or_eq_of_mem_set h1 with e | e
            · exact .inl (mks_kid e h2)
            · subst e
              rcases ih _ (by simp only [ByteArray.size_extract]; omega) k l _ m h2 with h3 | h3 | ⟨j, h3⟩
              · exact .inl (mks_kid hkm h3)
              · exact .inr (.inl h3)
              · exact .inr (.inr ⟨j + 1, h3⟩)
        · rcases mks_mk.1 h with h | ⟨l', h1, h2⟩ | ⟨x, h1, h2⟩
          · exact .inr (.inr ⟨_, h⟩)
          · exact .inl (by rw [h2]; exact mks_leaf h1)
          · rcases List.mem_or_eq_of_mem_set h1 with e | e
            · exact .inl (mks_kid e h2)
            · subst e
              rcases mks_split h2 with h3 | h3 | h3
              · exact .inl (mks_kid hkm h3)
              · exact .inr (.inl h3)
              · exact .inr (.inr h3)
theorem mks_shaped {n s : Nd} {b : Nat} (h : shapedN n b = some s) {m : Value} (hm : m ∈ mks s) : m ∈ mks n := by
  rcases shaped_cases n b with ⟨e, _⟩ | ⟨_, _, e⟩ | ⟨k, hl, hk, e⟩
  · rw [e] at h; cases h; exact hm
  · rw [e] at h; cases h
  · rw [e] at h; cases h
    have hkm : k ∈ n.kids := by rw [hk]; simp
    refine mks_kid hkm ?_
    rw [mks_of]
    exact mks_mk.1 hm
theorem mks_del : ∀ (N : Nat) (rest : ByteArray), rest.size ≤ N → ∀ (n x : Nd) (ns : Sup) (l : Lf), delN n rest ns = some (x, l) → ∀ m ∈ mks x, m ∈ mks n ∨ ∃ j, m = (ns j).2 := by
  intro N
  induction N with
  | zero =>
    intro rest hN n x ns l h m hm
    rcases delN_some h with ⟨h0, h1, h2⟩ | ⟨h0, _⟩
    · rw [h2] at hm
      rcases mks_mk.1 hm with h | ⟨l', h1, h2⟩ | ⟨k, h1, h2⟩
      · exact .inr ⟨_, h⟩
      · cases h1
      · exact .inl (mks_kid h1 h2)
    · omega
  | succ N ih =>
    intro rest hN n x ns l h m hm
    rcases delN_some h with ⟨h0, h1, h2⟩ | ⟨h0, k, low, hd, hp, hdel, h2⟩
    · rw [h2] at hm
      rcases mks_mk.1 hm with h | ⟨l', h1, h2⟩ | ⟨k, h1, h2⟩
      · exact .inr ⟨_, h⟩
      · cases h1
      · exact .inl (mks_kid h1 h2)
    · rw [h2] at hm
      have hkm := (downN_some hd).1
      rcases mks_mk.1 hm with h | ⟨l', h1, h3⟩ | ⟨y, h1, h3⟩
      · exact .inr ⟨_, h⟩
      · exact .inl (by rw [h3]; exact mks_leaf h1)
      · rcases mem_putKid h1 with e | e
        · exact .inl (mks_kid e h3)
        · rcases ih (rest.extract k.label.size rest.size) (by simp only [ByteArray.size_extract]; omega) k low _ l hdel m (mks_shaped e h3) with h4 | ⟨j, h4⟩
          · exact .inl (mks_kid hkm h4)
          · exact .inr ⟨j + 2, h4⟩
theorem insM (w : World) (tb : Nat) (root : Nd) (h : Tr w tb root) (k : ByteArray) (v : Int) (hk : k.size < 4000000000000) (hs : (All root).length < 3999999999999) :
    Calls Tryz.prog 27 #[ptr tb, .string k, .int .i64 v] w fun e w' => ∃ tb' root', e = .returned (wasV tb' (valT root (L k))) ∧ Tr w' tb' root' ∧ (∀ r, valT root' r = if r = L k then some (.int .i64 v) else valT root r) ∧ (All root').length ≤ (All root).length + 1 ∧ (∀ m ∈ mks root', m ∈ mks root ∨ ∃ c, m = ptr (c + 1) ∧ w.heap.size ≤ c ∧ WatchAt w' (c + 1) c false) ∧ Below w.heap.size w w' := by
  refine (treeInsert w tb root _ v k h.at_ h.fine.ok h.fine.sm hk (by omega) (by omega)).mono ?_
  rintro e w' ⟨tb', lb, m, ns, had, old, rfl, h1, h2, h3, h4, h5, h6, hB⟩
  have hg := fine_ins h.fine k hk ⟨lb, k, .int .i64 v, m⟩ rfl ns
  have hl := len_ins h.fine.toGood k ⟨lb, k, .int .i64 v, m⟩ ns hg.toGood
  rw [find_eq h.fine.toGood] at h2
  refine ⟨tb', insN root k ⟨lb, k, .int .i64 v, m⟩ ns, ?_, ⟨?_, hg, vals_ins h.fine.toGood h.vals k _ v rfl ns⟩, valT_ins h.fine.toGood k _ ns, ?_, fun x hx => ?_, hB⟩
  · unfold valT
    cases e : findT root (L k) with
    | none => rw [e] at h2; cases h2; rfl
    | some l => rw [e] at h2; cases h2; rfl
  · have e : (All root).length + incr had = ((All (insN root k ⟨lb, k, .int .i64 v, m⟩ ns)).length : Int) := by
      rw [hl]
      cases e : findT root (L k) with
      | none => rw [e] at h2; cases h2; rfl
      | some l => rw [e] at h2; cases h2; rfl
    rw [← e]
    exact h1
  · have : (if findT root (L k) = none then (1 : Int) else 0) ≤ 1 := by split <;> omega
    omega
  · rcases mks_ins k.size k (Nat.le_refl _) root _ ns x hx with h7 | h7 | ⟨j, h7⟩
    · exact .inl h7
    · obtain ⟨c, e1, e2, e3, e4⟩ := h5
      exact .inr ⟨c, h7.trans e1, e2, e4, e3⟩
    · obtain ⟨c, e1, e2, e3, e4⟩ := h6.mark j
      exact .inr ⟨c, h7.trans e1, e2, e4, e3⟩
end Go.Proofs.YtjhgknagmiekeaaGreat.G
set_option linter.unusedVariables false
set_option linter.unusedSimpArgs false
namespace Go.Proofs.YtjhgknagmiekeaaGreat.G
open Go.RowKit Go.Lib Go.Proofs Go.Conc Go.Maps
open Go.Proofs.YtjhgknagmiekeaaGreatW.PrintWords hiding Kept
open Go.Proofs.YtjhgknagmiekeaaGreat.T (Nd NdAt ptr Tr L All valT wasV Lf)
structure Only (p : Nat → Prop) (w w' : World) : Prop where
  far : ∀ k, k < w.heap.size → ¬ p k → w'.heap[k]? = w.heap[k]?
  size : w.heap.size ≤ w'.heap.size
  below : ∀ B, B ≤ w.heap.size → (∀ k, k < w.heap.size → p k → B ≤ k) → Below B w w'
theorem Only.refl (p : Nat → Prop) (w : World) : Only p w w := ⟨fun _ _ _ => rfl, Nat.le_refl _, fun _ _ _ => Below.refl _ _⟩
theorem Only.of {p : Nat → Prop} {w w' : World} (h : Below w.heap.size w w') : Only p w w' := ⟨fun k hk _ => h.block k hk, h.size, fun B hB _ => h.mono hB⟩
theorem Only.trans {p q : Nat → Prop} {a b c : World} (h : Only p a b) (k : Only q b c) : Only (fun x => p x ∨ q x) a c := by
  refine ⟨fun x hx hn => (k.far x (Nat.lt_of_lt_of_le hx h.size) (fun e => hn (.inr e))).trans (h.far x hx (fun e => hn (.inl e))), Nat.le_trans h.size k.size, fun B hB hs => (h.below B hB (fun x hx hp => hs x hx (.inl hp))).trans (k.below B (Nat.le_trans hB h.size) (fun x hx hq => ?_))⟩
  by_cases hlt : x < a.heap.size
  · exact hs x hlt (.inr hq)
  · omega
theorem Only.imp {p q : Nat → Prop} {w w' : World} (h : Only p w w') (hp : ∀ k, k < w.heap.size → p k → q k) : Only q w w' := ⟨fun k hk hn => h.far k hk (fun e => hn (hp k hk e)), h.size, fun B hB hs => h.below B hB (fun k hk e => hs k hk (hp k hk e))⟩
theorem Only.put {p : Nat → Prop} {w w' : World} (h : Only p w w') (b j : Nat) (hb : p b ∨ w.heap.size ≤ b) (v : Value) : Only p w (w'.setCell ⟨b, j, none⟩ v) := by
  refine ⟨fun k hk hn => (Below.heap_setCell _ _ _ k (fun e => ?_)).trans (h.far k hk hn), by rw [size_setCellG]; exact h.size, fun B hB hs => below_put (h.below B hB hs) b j ?_ v⟩
  · have e2 : k = b := e
    rcases hb with hb | hb
    · exact hn (by rw [e2]; exact hb)
    · omega
  · rcases hb with hb | hb
    · by_cases hlt : b < w.heap.size
      · exact hs b hlt hb
      · omega
    · omega
theorem Only.at {p : Nat → Prop} {w w' : World} (h : Only p w w') {b : Nat} {o : Obj} (hb : w.heap[b]? = some o) (hp : ¬ p b) : w'.heap[b]? = some o := (h.far b (Array.getElem?_eq_some_iff.1 hb).1 hp).trans hb
theorem only_grown {w w' : World} {b : Nat} (h : w.grownBy w' (some b)) : Only (fun k => k = b) w w' := ⟨fun k hk hn => h.block k hk (fun e => hn (by injection e)), h.size, fun B hB hs => by
  by_cases hb : b < w.heap.size
  · exact T.below_grown h hB (fun k e => by injection e with e; rw [← e]; exact hs b hb rfl)
  · exact ⟨h.os, h.tape, h.output, h.size, fun k hk => h.block k (by omega) (fun e => by injection e with e; omega)⟩⟩
def TxnAt (w : World) (x b tx mb : Nat) (over : Bool) : Prop := w.heap[x]? = some (.cells #[ptr b, ptr tx, .map (some mb), .bool over] 117 (0, 0))
def Tch (w : World) (mb n : Nat) (D : DataW Unit) : Prop := w.ownsMap Tryz.prog 9 (plainElem Tryz.prog 3) mb n D
theorem BaseAt.move {w w' : World} {b v tb : Nat} {n : Int} {held : Bool} (h : BaseAt w b v tb n held) (h1 : w'.heap[b]? = w.heap[b]?) (h2 : w'.heap[v]? = w.heap[v]?) : BaseAt w' b v tb n held := ⟨h1.trans h.base, h2.trans h.ver⟩
theorem BaseAt.ne {w : World} {b v tb : Nat} {n : Int} {held : Bool} (h : BaseAt w b v tb n held) : b ≠ v := fun e => by
  have h1 := h.base
  rw [e, h.ver] at h1
  cases h1
set_option maxRecDepth 100000 in
set_option maxHeartbeats 1600000 in
theorem beginHeld (w : World) (b v tb : Nat) (n : Int) (h : BaseAt w b v tb n true) : Calls Tryz.prog 18 #[ptr b] w fun e w' => e = .returned (.tuple #[.pointer none, .int .i64 50]) ∧ w' = w := by
  have q := Aside0.mk (try_held ⟨b, 1, none⟩ w (by rw [blk_cell h.base]; rfl))
  clear h
  have hnot : ∀ (x : Bool) (w : World), (Op.unary .not (.bool x)).run Tryz.prog w = .ok (.bool (!x)) w := fun _ _ => rfl
  unfold ptr
  go_enter Tryz.func18, Tryz.ntmps18
  go_wp2_with (first | (go_at_call 43; refine q.out.mono ?_; rintro e w' ⟨rfl, hw⟩; subst hw))
  go_ret2
  exact ⟨rfl, rfl⟩
set_option maxRecDepth 100000 in
set_option maxHeartbeats 1600000 in
theorem beginFree (w : World) (b v tb : Nat) (n : Int) (h : BaseAt w b v tb n false) : Calls Tryz.prog 18 #[ptr b] w fun e w' => ∃ x mb, e = .returned (.tuple #[ptr x, .int .i64 0]) ∧ BaseAt w' b v tb n true ∧ TxnAt w' x b tb mb false ∧ Tch w' mb 0 (.map []) ∧ w.heap.size ≤ x ∧ w.heap.size ≤ mb ∧ mb < x ∧ Only (fun k => k = b) w w' := by
  have hb : b < w.heap.size := (Array.getElem?_eq_some_iff.1 h.base).1
  have q1 := Aside0.mk (try_free ⟨b, 1, none⟩ w (by rw [blk_cell h.base]; rfl) (blk_frozen h.base 1))
  obtain ⟨W1, eW1⟩ : ∃ W1, w.setCell ⟨b, 1, none⟩ (.int .i32 1) = W1 := ⟨_, rfl⟩
  have h1 : BaseAt W1 b v tb n true := ⟨by rw [← eW1]; exact set_atG h.base 1 _, by rw [← eW1]; exact (Below.heap_setCell _ _ _ v (Ne.symm h.ne)).trans h.ver⟩
  have q2 := Aside0.mk (baseTree W1 b v tb n true h1)
  have hsz : W1.heap.size = w.heap.size := by rw [← eW1, size_setCellG]
  have H1 := Aside0.mk (And.intro h1 (And.intro (show Only (fun k => k = b) w W1 from by rw [← eW1]; exact (Only.refl (fun k => k = b) w).put b 1 (.inl rfl) _) hsz))
  rw [eW1] at q1
  have hmm := @run_makeMap Tryz.prog
  clear h h1 hb eW1
  have hnot : ∀ (x : Bool) (w : World), (Op.unary .not (.bool x)).run Tryz.prog w = .ok (.bool (!x)) w := fun _ _ => rfl
  unfold ptr at q2 ⊢
  go_enter Tryz.func18, Tryz.ntmps18
  go_wp2_with (first | (go_at_call 43; refine q1.out.mono ?_; rintro e w' ⟨rfl, hw⟩; subst hw) | (go_at_call 12; refine q2.out.mono ?_; rintro e w' ⟨rfl, hw⟩; subst hw))
  go_ret2
  have hs1 : w'.heap.size = w.heap.size := H1.out.2.2
  have hb1 : Below w'.heap.size w' (w'.alloc (.map #[] 0)) := (Below.refl _ w').alloc (Nat.le_refl _) _
  have hb2 : Below w'.heap.size w' ((w'.alloc (.map #[] 0)).alloc (.cells #[ptr b, ptr tb, .map (some w.heap.size), .bool false] 117)) := hb1.alloc (by rw [World.size_alloc]; omega) _
  refine ⟨w.heap.size + 1, w.heap.size, rfl, H1.out.1.move (hb2.block _ (Array.getElem?_eq_some_iff.1 H1.out.1.base).1) (hb2.block _ (Array.getElem?_eq_some_iff.1 H1.out.1.ver).1), ?_, ?_, by omega, by omega, by omega, (H1.out.2.1.trans (Only.of (p := fun _ => False) hb2)).imp (fun k _ h => h.elim id (fun e => e.elim))⟩
  · have := heap_alloc_new (w'.alloc (.map #[] 0)) (.cells #[ptr b, ptr tb, .map (some w.heap.size), .bool false] 117)
    rw [World.size_alloc, hs1] at this
    exact this
  · have := World.ownsMap_made (H := Unit) w' Tryz.prog 9 (plainElem Tryz.prog 3)
    rw [hs1] at this
    exact this.alloc _
theorem was_form {root : Nd} (hv : T.IntVals root) (tb : Nat) (r : List UInt8) : ∃ (x : Int) (h : Bool), wasV tb (valT root r) = .tuple #[ptr tb, .int .i64 x, .bool h] := by
  unfold valT
  cases e : T.findT root r with
  | none => exact ⟨0, false, rfl⟩
  | some l =>
    obtain ⟨v, ev⟩ := hv _ _ e
    exact ⟨v, true, by show Value.tuple #[ptr tb, l.val, .bool true] = _; rw [ev]⟩
theorem keyOf_str (k : ByteArray) (hk : k.size < 4000000000000) : keyOf Tryz.prog 9 (.string k) = some (.string k.data.toList) := by
  have h : k.size ≤ maxLen := by unfold maxLen; omega
  simp [keyOf, mapKey, Tryz.underlying9, h]
set_option maxRecDepth 100000 in
set_option maxHeartbeats 4000000 in
theorem txnSet (w : World) (x b tx mb nn : Nat) (D : DataW Unit) (root : Nd) (hx : TxnAt w x b tx mb false) (hm : Tch w mb nn D) (hnn : nn < 1000000000000) (ht : Tr w tx root) (k : ByteArray) (v : Int) (hk : k.size < 4000000000000) (hs : (All root).length < 3999999999999) :
    Calls Tryz.prog 26 #[ptr x, .string k, .int .i64 v] w fun e w' => ∃ (old : Int) (had : Bool) (tx' : Nat) (root' : Nd) (c : Int), e = .returned (.tuple #[.int .i64 old, .bool had, .int .i64 0]) ∧ TxnAt w' x b tx' mb false ∧ Tch w' mb (nn + 1) (D.put (.string k.data.toList) (.lit (.int .i64 c))) ∧ Tr w' tx' root' ∧ (∀ r, valT root' r = if r = L k then some (.int .i64 v) else valT root r) ∧ (All root').length ≤ (All root).length + 1 ∧
      (∀ m ∈ mks root', m ∈ mks root ∨ ∃ c, m = ptr (c + 1) ∧ w.heap.size ≤ c ∧ WatchAt w' (c + 1) c false) ∧ Only (fun j => j = mb ∨ j = x) w w' := by
  obtain ⟨cv, hrun, hat, hwf⟩ := World.ownsMap.lookup_int hm (string_keyed Tryz.underlying9) Tryz.underlying115 Tryz.underlying3 (by kernel_rfl) (keyOf_str k hk)
  have x1 : w.cell? ⟨x, 1, none⟩ = some (ptr tx) := by rw [blk_cell hx]; rfl
  have x2 : w.cell? ⟨x, 2, none⟩ = some (.map (some mb)) := by rw [blk_cell hx]; rfl
  have x3 : w.cell? ⟨x, 3, none⟩ = some (.bool false) := by rw [blk_cell hx]; rfl
  have HX := Aside0.mk (And.intro hx (And.intro hm ht))
  have HK := Aside0.mk (keyOf_str k hk)
  clear hx hm ht hat
  unfold ptr at x1 ⊢
  go_enter Tryz.func26, Tryz.ntmps26
  go_upto_region 4 with fail
  go_wp2_with (at_mapUpdate; refine wpList_mapUpdate_own _ rfl _ _ _ 115 rfl 9 3 (string_keyed Tryz.underlying9) Tryz.underlying115 (plainElem Tryz.prog 3) mb nn D rfl HX.out.2.1 (by unfold maxLen; omega) _ _ (.string k.data.toList) rfl rfl HK.out (.lit (.int .i64 (wrap64 (cv + 1)))) [] (plainElem_int Tryz.underlying3 (RowKit.wrap64_wf _)) ?_)
  intro w1 hm1 hg1
  have ho1 := only_grown hg1
  have hlt : x < w.heap.size := (Array.getElem?_eq_some_iff.1 HX.out.1).1
  have hmx : mb ≠ x := fun e => by
    obtain ⟨es, cl, h1, -⟩ := HX.out.2.1
    rw [e, HX.out.1] at h1
    cases h1
  have hx1 := ho1.at HX.out.1 (fun e => hmx e.symm)
  have y1 : w1.cell? ⟨x, 1, none⟩ = some (.pointer (some ⟨tx, 0, none⟩)) := by rw [blk_cell hx1]; rfl
  have hfar1 : FarP (fun _ => false) w w1 := fun j cs t fr hj _ => ho1.at hj (fun e => by
    obtain ⟨es, cl, h1, -⟩ := HX.out.2.1
    rw [e, h1] at hj
    cases hj)
  have ht1 : Tr w1 tx root := hfar1.tr rfl rfl rfl rfl HX.out.2.2
  have q1 := Aside0.mk (insM w1 tx root ht1 k v hk hs)
  have HW := Aside0.mk (fun tb => was_form ht1.vals tb (L k))
  obtain ⟨o, eo⟩ : ∃ o, valT root (L k) = o := ⟨_, rfl⟩
  rw [eo] at q1 HW
  have H1 := Aside0.mk (And.intro hm1 (And.intro ho1 (And.intro hx1 (And.intro hmx ht1))))
  have HEO := Aside0.mk eo
  clear hm1 hg1 ho1 hx1 hfar1 ht1 x1 x2 x3 hrun eo
  unfold ptr at q1
  go_wp2_with fail
  go_at_call 27
  refine q1.out.mono ?_
  rintro e w2 ⟨tb', root', rfl, ht2, hv2, hl2, hm2, hb2⟩
  obtain ⟨ox, oh, eab⟩ := HW.out tb'
  rw [eab]
  have hx2 := (hb2.block _ (Array.getElem?_eq_some_iff.1 H1.out.2.2.1).1).trans H1.out.2.2.1
  have z1 : w2.cell? ⟨x, 1, none⟩ = some (.pointer (some ⟨tx, 0, none⟩)) := by rw [blk_cell hx2]; rfl
  have f1 : w2.frozen? ⟨x, 1, none⟩ = false := blk_frozen hx2 1
  have H2 := Aside0.mk (And.intro ht2 (And.intro hv2 (And.intro hl2 (And.intro hm2 (And.intro hb2 hx2)))))
  clear ht2 hv2 hl2 hm2 hb2 hx2 q1 HW eab y1
  unfold ptr
  go_wp2_with fail
  go_ret3
  have hfar : ∀ j, j ≠ x → (w2.setCell ⟨x, 1, none⟩ (ptr tb')).heap[j]? = w2.heap[j]? := fun j hj => Below.heap_setCell _ _ _ j hj
  have hfp : FarP (fun t => t == 117) w2 (w2.setCell ⟨x, 1, none⟩ (ptr tb')) := fun j cs t fr hj ht => (hfar j (fun e => by
    subst e
    rw [H2.out.2.2.2.2.2] at hj
    injection hj with e1
    injection e1 with _ e2 _
    rw [← e2] at ht
    cases ht)).trans hj
  have hb := H2.out.2.2.2.2.1
  have hmk : Tch w2 mb (nn + 1) (D.put (.string k.data.toList) (.lit (.int .i64 (wrap64 (cv + 1))))) := by
    have h9 := H1.out.1
    exact h9.kept (row := none) ⟨hb.os, hb.tape, hb.output, hb.size, fun i hi _ => hb.block i hi⟩ (by simp)
  refine ⟨ox, oh, tb', root', wrap64 (cv + 1), rfl, set_atG H2.out.2.2.2.2.2 1 _, hmk.setCell (a := ⟨x, 1, none⟩) H1.out.2.2.2.1 _, hfp.tr rfl rfl rfl rfl H2.out.1, H2.out.2.1, H2.out.2.2.1, fun m hm => ?_, ?_⟩
  · rcases H2.out.2.2.2.1 m hm with h | ⟨c, h1, h2, h3⟩
    · exact .inl h
    · refine .inr ⟨c, h1, Nat.le_trans H1.out.2.1.size h2, h3.move (hfar _ ?_) (hfar _ ?_)⟩
      · have := H1.out.2.1.size; omega
      · have := H1.out.2.1.size; omega
  · exact ((H1.out.2.1.trans (Only.of (p := fun j => j = x) hb)).put x 1 (.inl (.inr rfl)) _)
end Go.Proofs.YtjhgknagmiekeaaGreat.G
namespace Go.Proofs
open Go.Shelf
open Go.RowKit Go.Maps Go.Sort
def Tryz.keys169_ren : Go.Shelf.Ren := ⟨fun | 7 => 86 | 10 => 118 | n => n, fun | 23 => 115 | 26 => 9 | 3 => 3 | 28 => 177 | 0 => 0 | 27 => 176 | 33 => 105 | 4 => 4 | n => n, fun | n => n⟩
theorem Tryz.keys169 : Go.Proofs.SlLaysZ.n7 Tryz.prog Tryz.keys169_ren := {
  mixed := by kernel_rfl
  f7 := ⟨Tryz.f86.name, by decide, Tryz.func86.trans (congrArg some (by kernel_rfl))⟩
  f10 := ⟨Tryz.f118.name, by decide, Tryz.func118.trans (congrArg some (by kernel_rfl))⟩
  t0 := Tryz.underlying0
  a0 := Tryz.isAgg0
  z0 := Tryz.sizeOf0
  v0 := Tryz.zeroValue0
  t4 := Tryz.underlying4
  a4 := Tryz.isAgg4
  z4 := Tryz.sizeOf4
  v4 := Tryz.zeroValue4
  t23 := Tryz.underlying115
  a23 := Tryz.isAgg115
  z23 := Tryz.sizeOf115
  v23 := Tryz.zeroValue115
  t26 := Tryz.underlying9
  a26 := Tryz.isAgg9
  z26 := Tryz.sizeOf9
  v26 := Tryz.zeroValue9
  t27 := Tryz.underlying176
  a27 := Tryz.isAgg176
  z27 := Tryz.sizeOf176
  v27 := Tryz.zeroValue176
  t28 := Tryz.underlying177
  a28 := Tryz.isAgg177
  z28 := Tryz.sizeOf177
  v28 := Tryz.zeroValue177
  t33 := Tryz.underlying105
  a33 := Tryz.isAgg105
  z33 := Tryz.sizeOf105
  v33 := Tryz.zeroValue105 }
def Tryz.sorted168_ren : Go.Shelf.Ren := ⟨fun | 6 => 85 | 8 => 116 | 9 => 117 | 11 => 142 | 13 => 97 | 12 => 143 | 23 => 132 | 24 => 133 | 14 => 156 | 15 => 157 | 16 => 158 | 17 => 159 | 18 => 160 | 19 => 161 | 20 => 162 | 21 => 163 | 22 => 164 | 25 => 170 | 26 => 146 | 27 => 147 | 28 => 171 | 29 => 172 | 30 => 173 | 31 => 177 | n => n, fun | 26 => 9 | 28 => 177 | 24 => 22 | 0 => 0 | 3 => 3 | 37 => 186 | 48 => 93 | 50 => 27 | 4 => 4 | 40 => 208 | 39 => 207 | 45 => 42 | 5 => 5 | 9 => 9 | 51 => 221 | 55 => 224 | 57 => 237 | 58 => 238 | 33 => 105 | n => n, fun | n => n⟩
theorem Tryz.sorted168 : Go.Proofs.SlLaysZ.n6 Tryz.prog Tryz.sorted168_ren := {
  mixed := by kernel_rfl
  f6 := ⟨Tryz.f85.name, by decide, Tryz.func85.trans (congrArg some (by kernel_rfl))⟩
  f8 := ⟨Tryz.f116.name, by decide, Tryz.func116.trans (congrArg some (by kernel_rfl))⟩
  f11 := ⟨Tryz.f142.name, by decide, Tryz.func142.trans (congrArg some (by kernel_rfl))⟩
  t0 := Tryz.underlying0
  a0 := Tryz.isAgg0
  z0 := Tryz.sizeOf0
  v0 := Tryz.zeroValue0
  t24 := Tryz.underlying22
  a24 := Tryz.isAgg22
  z24 := Tryz.sizeOf22
  v24 := Tryz.zeroValue22
  t26 := Tryz.underlying9
  a26 := Tryz.isAgg9
  z26 := Tryz.sizeOf9
  v26 := Tryz.zeroValue9
  t28 := Tryz.underlying177
  a28 := Tryz.isAgg177
  z28 := Tryz.sizeOf177
  v28 := Tryz.zeroValue177
  i26 := by kernel_rfl }
def Tryz.sort185_ren : Go.Shelf.Ren := ⟨fun | 6 => 117 | 8 => 97 | 9 => 143 | 19 => 132 | 20 => 133 | 21 => 156 | 22 => 157 | 23 => 158 | 24 => 159 | 25 => 160 | 26 => 161 | 27 => 162 | 28 => 163 | 29 => 164 | 36 => 170 | 31 => 146 | 32 => 147 | 37 => 171 | 38 => 172 | 39 => 173 | 41 => 177 | n => n, fun | 27 => 22 | 29 => 9 | 3 => 3 | 32 => 186 | 26 => 22 | 0 => 0 | 44 => 93 | 46 => 27 | 4 => 4 | 36 => 208 | 35 => 207 | 41 => 42 | 5 => 5 | 9 => 9 | 53 => 221 | 57 => 224 | 63 => 237 | 64 => 238 | n => n, fun | n => n⟩
theorem Tryz.sort185 : Go.Proofs.SlLaysM.n6 Tryz.prog Tryz.sort185_ren := {
  mixed := by kernel_rfl
  f6 := ⟨Tryz.f117.name, by decide, Tryz.func117.trans (congrArg some (by kernel_rfl))⟩
  f8 := Tryz.func97.trans (congrArg some (by kernel_rfl))
  f9 := ⟨Tryz.f143.name, by decide, Tryz.func143.trans (congrArg some (by kernel_rfl))⟩
  f19 := Tryz.func132.trans (congrArg some (by kernel_rfl))
  f20 := Tryz.func133.trans (congrArg some (by kernel_rfl))
  f21 := ⟨Tryz.f156.name, by decide, Tryz.func156.trans (congrArg some (by kernel_rfl))⟩
  f22 := ⟨Tryz.f157.name, by decide, Tryz.func157.trans (congrArg some (by kernel_rfl))⟩
  f23 := ⟨Tryz.f158.name, by decide, Tryz.func158.trans (congrArg some (by kernel_rfl))⟩
  f24 := ⟨Tryz.f159.name, by decide, Tryz.func159.trans (congrArg some (by kernel_rfl))⟩
  f25 := ⟨Tryz.f160.name, by decide, Tryz.func160.trans (congrArg some (by kernel_rfl))⟩
  f26 := ⟨Tryz.f161.name, by decide, Tryz.func161.trans (congrArg some (by kernel_rfl))⟩
  f27 := ⟨Tryz.f162.name, by decide, Tryz.func162.trans (congrArg some (by kernel_rfl))⟩
  f28 := ⟨Tryz.f163.name, by decide, Tryz.func163.trans (congrArg some (by kernel_rfl))⟩
  f29 := ⟨Tryz.f164.name, by decide, Tryz.func164.trans (congrArg some (by kernel_rfl))⟩
  f31 := Tryz.func146.trans (congrArg some (by kernel_rfl))
  f32 := Tryz.func147.trans (congrArg some (by kernel_rfl))
  f36 := ⟨Tryz.f170.name, by decide, Tryz.func170.trans (congrArg some (by kernel_rfl))⟩
  f37 := ⟨Tryz.f171.name, by decide, Tryz.func171.trans (congrArg some (by kernel_rfl))⟩
  f38 := ⟨Tryz.f172.name, by decide, Tryz.func172.trans (congrArg some (by kernel_rfl))⟩
  f39 := ⟨Tryz.f173.name, by decide, Tryz.func173.trans (congrArg some (by kernel_rfl))⟩
  f41 := ⟨Tryz.f177.name, by decide, Tryz.func177.trans (congrArg some (by kernel_rfl))⟩
  t0 := Tryz.underlying0
  a0 := Tryz.isAgg0
  z0 := Tryz.sizeOf0
  v0 := Tryz.zeroValue0
  t3 := Tryz.underlying3
  a3 := Tryz.isAgg3
  z3 := Tryz.sizeOf3
  v3 := Tryz.zeroValue3
  t4 := Tryz.underlying4
  a4 := Tryz.isAgg4
  z4 := Tryz.sizeOf4
  v4 := Tryz.zeroValue4
  t5 := Tryz.underlying5
  a5 := Tryz.isAgg5
  z5 := Tryz.sizeOf5
  v5 := Tryz.zeroValue5
  t9 := Tryz.underlying9
  a9 := Tryz.isAgg9
  z9 := Tryz.sizeOf9
  v9 := Tryz.zeroValue9
  t26 := Tryz.underlying22
  a26 := Tryz.isAgg22
  z26 := Tryz.sizeOf22
  v26 := Tryz.zeroValue22
  t27 := Tryz.underlying22
  a27 := Tryz.isAgg22
  z27 := Tryz.sizeOf22
  v27 := Tryz.zeroValue22
  t29 := Tryz.underlying9
  a29 := Tryz.isAgg9
  z29 := Tryz.sizeOf9
  v29 := Tryz.zeroValue9
  t32 := Tryz.underlying186
  a32 := Tryz.isAgg186
  z32 := Tryz.sizeOf186
  v32 := Tryz.zeroValue186
  t35 := Tryz.underlying207
  a35 := Tryz.isAgg207
  z35 := Tryz.sizeOf207
  v35 := Tryz.zeroValue207
  t36 := Tryz.underlying208
  a36 := Tryz.isAgg208
  z36 := Tryz.sizeOf208
  v36 := Tryz.zeroValue208
  t41 := Tryz.underlying42
  a41 := Tryz.isAgg42
  z41 := Tryz.sizeOf42
  v41 := Tryz.zeroValue42
  t44 := Tryz.underlying93
  a44 := Tryz.isAgg93
  z44 := Tryz.sizeOf93
  v44 := Tryz.zeroValue93
  t46 := Tryz.underlying27
  a46 := Tryz.isAgg27
  z46 := Tryz.sizeOf27
  v46 := Tryz.zeroValue27
  t53 := Tryz.underlying221
  a53 := Tryz.isAgg221
  z53 := Tryz.sizeOf221
  v53 := Tryz.zeroValue221
  t57 := Tryz.underlying224
  a57 := Tryz.isAgg224
  z57 := Tryz.sizeOf224
  v57 := Tryz.zeroValue224
  t63 := Tryz.underlying237
  a63 := Tryz.isAgg237
  z63 := Tryz.sizeOf237
  v63 := Tryz.zeroValue237
  t64 := Tryz.underlying238
  a64 := Tryz.isAgg238
  z64 := Tryz.sizeOf238
  v64 := Tryz.zeroValue238 }
theorem Tryz.sorts168 (m : Nat) : AnyZ.SortsIn Tryz.prog Tryz.sorted168_ren Fence.wide m :=
  ⟨fun blk off cap ss W hH hblk hsz => callsIn_wide.2 (AnyM.slices_Sort_string Tryz.sort185 blk off cap ss W hH hblk hsz),
   fun p cap W => callsIn_wide.2 (AnyM.slices_Sort_string_none Tryz.sort185 p cap W)⟩
theorem Tryz.maps_Keys_169 (mb : Option Nat) (W : World) : CallsIn Fence.wide 5 Tryz.prog 86 #[.map mb] W fun e w' => e = .returned (.func (.func 118) #[] #[.pointer (some ⟨W.heap.size, 0, none⟩)]) ∧ w' = W.alloc (.cells #[.map mb] 115) :=
  AnyZ.keys_in Tryz.keys169 Fence.wide 5 trivial rfl mb W
set_option maxHeartbeats 1000000 in
theorem Tryz.slices_Sorted_keys_168_169 {H : Type} (b nn : Nat) (D0 : DataW H) (R : Value → Option (DataW H × List MemPlace)) (w : World) (hown : w.ownsMap Tryz.prog 9 R b nn D0) (hmax : Maps.size D0 ≤ maxLen) (hbytes : Maps.size D0 * 16 ≤ 140737488355328) :
    CallsIn Fence.wide 5 Tryz.prog 85 #[.func (.func 118) #[] #[.pointer (some ⟨w.heap.size, 0, none⟩)]] (w.alloc (.cells #[.map (some b)] 115)) fun e w' => ∃ (v : Value) (ss : List (List UInt8)), e = .returned v ∧ ss.Perm (strKeys D0) ∧
      w'.ownsRow (w.alloc (.cells #[.map (some b)] 115)).heap.size 9 1 v ss.length ((ss.mergeSort (fun x y => decide (x ≤ y))).map encStr) ∧ (v = .slice none 0 0 ↔ ss = []) ∧ Below (w.alloc (.cells #[.map (some b)] 115)).heap.size (w.alloc (.cells #[.map (some b)] 115)) w' := by
  have hbl := hown.lt
  have hseq : SeqGives Fence.wide 2 Tryz.prog 118 #[.pointer (some ⟨w.heap.size, 0, none⟩)] encStr (fun ss => ss.Perm (strKeys D0)) (Maps.size D0) (w.alloc (.cells #[.map (some b)] 115)) :=
    AnyZ.keys_gives (ρ := Tryz.keys169_ren) { Tryz.keys169 with } Fence.wide _ trivial rfl (by omega) w.heap.size b nn D0 _ (by simp) (by simp) (by
      obtain ⟨es, clock, hb, Ft, hs, hD⟩ := hown
      exact ⟨es, clock, (Below.heap_alloc _ _ b hbl).trans hb, Ft, hs, hD⟩)
  exact AnyZ.sorted_in Tryz.sorted168 Fence.wide 5 trivial trivial trivial trivial rfl (by omega) (Tryz.sorts168 _) (enters_of Tryz.func117 (by kernel_rfl) rfl) 118 #[.pointer (some ⟨w.heap.size, 0, none⟩)] trivial (enters_of Tryz.func118 (by kernel_rfl) rfl) _ _ hmax hbytes _ hseq
end Go.Proofs
set_option linter.unusedVariables false
set_option linter.unusedSimpArgs false
namespace Go.Proofs.YtjhgknagmiekeaaGreat.G
open Go.RowKit Go.Lib Go.Proofs Go.Conc Go.Maps Go.Sort Go.Shelf
open Go.Proofs.YtjhgknagmiekeaaGreatW.PrintWords hiding Kept
open Go.Proofs.YtjhgknagmiekeaaGreat.T (Nd NdAt ptr Tr L All valT wasV Lf Strs)
structure TxtRow (w : World) (v : Value) (ks : List ByteArray) : Prop where
  slice : ∃ A c, v = .slice A ks.length c ∧ Strs w A ks ∧ ∀ i (hi : i < ks.length), ∃ ad cs fr, A = some ad ∧ w.heap[ad.block]? = some (.cells cs 9 fr)
theorem txtRow_own {w : World} {B : Nat} {v : Value} {ks : List ByteArray} (h : w.ownsRow B 9 1 v ks.length (ks.map Value.string)) : TxtRow w v ks := by
  rcases h.2 with ⟨rfl, h2⟩ | ⟨g, cap, cur, rfl, hb, hg, hr⟩
  · exact ⟨none, 0, by rw [h2], fun i hi => by omega, fun i hi => by omega⟩
  · refine ⟨some ⟨g, 0, none⟩, cap, rfl, fun i hi => ⟨⟨g, 0, none⟩, rfl, ?_⟩, fun i hi => ⟨⟨g, 0, none⟩, cur, _, rfl, hg⟩⟩
    refine h.cells (g := g) rfl i _ ?_
    rw [List.getElem?_map, List.getElem?_eq_getElem hi]
    rfl
def txt (s : List UInt8) : ByteArray := ⟨s.toArray⟩
theorem L_txt (s : List UInt8) : L (txt s) = s := by simp [L, txt]
set_option maxRecDepth 100000 in
set_option maxHeartbeats 4000000 in
theorem txnTouched (w : World) (x b tx mb nn : Nat) (D : DataW Unit) (hx : TxnAt w x b tx mb false) (hm : Tch w mb nn D) (hnn : nn < 1000000000000) :
    Calls Tryz.prog 50 #[ptr x] w fun e w' => ∃ (v : Value) (ks : List ByteArray), e = .returned v ∧ TxtRow w' v ks ∧ (ks.map L).Perm (strKeys D) ∧ Below w.heap.size w w' := by
  have x2 : w.cell? ⟨x, 2, none⟩ = some (.map (some mb)) := by rw [blk_cell hx]; rfl
  have x3 : w.cell? ⟨x, 3, none⟩ = some (.bool false) := by rw [blk_cell hx]; rfl
  have hsz := hm.size_le
  have q1 := Aside0.mk ((callsIn_wide (n := 5)).1 (Tryz.maps_Keys_169 (some mb) w))
  have q2 := Aside0.mk ((callsIn_wide (n := 5)).1 (Tryz.slices_Sorted_keys_168_169 mb nn D (plainElem Tryz.prog 3) w hm (by unfold maxLen; omega) (by omega)))
  clear hx hm hsz hnn
  unfold ptr
  go_enter Tryz.func50, Tryz.ntmps50
  go_wp2_with (first | (go_at_call 86; refine q1.out.mono ?_; rintro e w' ⟨rfl, hw⟩; subst hw) | (go_at_call 85; refine q2.out.mono ?_; rintro e w' ⟨v, ss, rfl, hS, hrow, hnil, hb⟩))
  go_ret
  have hb0 : Below w.heap.size w (w.alloc (.cells #[.map (some mb)] 115)) := (Below.refl _ w).alloc (Nat.le_refl _) _
  refine ⟨v, (ss.mergeSort (fun x y => decide (x ≤ y))).map txt, rfl, txtRow_own (B := (w.alloc (.cells #[.map (some mb)] 115)).heap.size) ?_, ?_, T.belowAt hb0 hb⟩
  · rw [List.map_map, List.length_map, List.length_mergeSort]
    exact hrow
  · rw [List.map_map]
    have e1 : (ss.mergeSort (fun x y => decide (x ≤ y))).map (L ∘ txt) = ss.mergeSort (fun x y => decide (x ≤ y)) := by
      rw [show (L ∘ txt) = id from funext L_txt, List.map_id]
    rw [e1]
    exact (List.mergeSort_perm ss _).trans hS
end Go.Proofs.YtjhgknagmiekeaaGreat.G
set_option linter.unusedVariables false
set_option linter.unusedSimpArgs false
namespace Go.Proofs.YtjhgknagmiekeaaGreat.T
mutual
/-- the blocks of a tree's nodes -/
def bls : Nd → List Nat
  | .mk b _ _ kids _ => b :: blss kids
def blss : List Nd → List Nat
  | [] => []
  | n :: r => bls n ++ blss r
end
mutual
/-- how many nodes are not known, down to the known ones -/
def cntF (K : Nat → Bool) : Nd → Nat
  | .mk b _ _ kids _ => if K b = true then 0 else 1 + cntFs K kids
def cntFs (K : Nat → Bool) : List Nd → Nat
  | [] => 0
  | n :: r => cntF K n + cntFs K r
end
theorem bls_eq (n : Nd) : bls n = n.b :: blss n.kids := by cases n; rw [bls]; rfl
theorem cntF_eq (K : Nat → Bool) (n : Nd) : cntF K n = if K n.b = true then 0 else 1 + cntFs K n.kids := by cases n; rw [cntF]; rfl
theorem mem_blss {b : Nat} : ∀ {ks : List Nd}, b ∈ blss ks ↔ ∃ k ∈ ks, b ∈ bls k
  | [] => by rw [blss]; simp
  | n :: r => by
    rw [blss, List.mem_append, mem_blss (ks := r)]
    constructor
    · rintro (h | ⟨k, hk, h⟩)
      · exact ⟨n, by simp, h⟩
      · exact ⟨k, by simp [hk], h⟩
    · rintro ⟨k, hk, h⟩
      rcases List.mem_cons.1 hk with e | e
      · subst e; exact .inl h
      · exact .inr ⟨k, e, h⟩
def Kn (K : Nat → Bool) (n : Nd) : Prop := ∀ b ∈ bls n, K b = true
theorem Kn.self {K : Nat → Bool} {n : Nd} (h : Kn K n) : K n.b = true := h n.b (by rw [bls_eq]; simp)
theorem Kn.kid {K : Nat → Bool} {n : Nd} (h : Kn K n) {k : Nd} (hk : k ∈ n.kids) : Kn K k := fun b hb => h b (by rw [bls_eq]; exact List.mem_cons_of_mem _ (mem_blss.2 ⟨k, hk, hb⟩))
theorem Kn.zero {K : Nat → Bool} {n : Nd} (h : Kn K n) : cntF K n = 0 := by rw [cntF_eq, if_pos h.self]
end Go.Proofs.YtjhgknagmiekeaaGreat.T
set_option linter.unusedVariables false
set_option linter.unusedSimpArgs false
namespace Go.Proofs.YtjhgknagmiekeaaGreat.T
def wayL (k : ByteArray) : Nat → Option Nd → Nat → List (Nd × Nat)
  | 0, _, _ => []
  | _ + 1, none, _ => []
  | f + 1, some n, a => (n, a + n.label.size) :: wayL k f (downN n (k.extract (a + n.label.size) k.size)) (a + n.label.size)
theorem wayL_none (k : ByteArray) (f a : Nat) : wayL k f none a = [] := by cases f <;> rfl
theorem wayF_list {σ : Type} (step : σ → Nd → Nat → σ) (k : ByteArray) : ∀ (f : Nat) (o : Option Nd) (a : Nat) (s : σ), wayF step k f o a s = (wayL k f o a).foldl (fun s p => step s p.1 p.2) s
  | 0, _, _, _ => rfl
  | _ + 1, none, _, _ => rfl
  | f + 1, some n, a, s => by
    unfold wayF wayL
    rw [List.foldl_cons]
    exact wayF_list step k f _ _ _
def onR (n : Nd) (R : List UInt8) (b j : Nat) : Option (Nd × Nat) := (nodeT n (R.take j)).map fun x => (x, b + j)
theorem filterMap_head {β : Type} (g : Nat → Option β) (y : β) (A : Nat) (hA : 0 < A) (h0 : g 0 = some y) (h : ∀ j, 0 < j → j < A → g j = none) : (List.range A).filterMap g = [y] := by
  obtain ⟨m, rfl⟩ : ∃ m, A = m + 1 := ⟨A - 1, by omega⟩
  rw [List.range_succ_eq_map, List.filterMap_cons, h0]
  show y :: _ = _
  rw [List.filterMap_map]
  congr 1
  refine List.filterMap_eq_nil_iff.2 (fun j hj => ?_)
  have := List.mem_range.1 hj
  exact h (j + 1) (by omega) (by omega)
theorem fm_congr {α β : Type} {f g : α → Option β} : ∀ {l : List α}, (∀ x ∈ l, f x = g x) → l.filterMap f = l.filterMap g
  | [], _ => rfl
  | x :: l, h => by rw [List.filterMap_cons, List.filterMap_cons, h x List.mem_cons_self, fm_congr (fun y hy => h y (List.mem_cons_of_mem _ hy))]
theorem way_stop (n : Nd) (R : List UInt8) (b : Nat) (h : ∀ j, 0 < j → j ≤ R.length → nodeT n (R.take j) = none) : (List.range (R.length + 1)).filterMap (onR n R b) = [(n, b)] :=
  filterMap_head _ _ _ (by omega) (by unfold onR; rw [List.take_zero, nodeT_nil]; rfl) (fun j h1 h2 => by unfold onR; rw [h j h1 (by omega)]; rfl)
theorem way_nodes (k : ByteArray) : ∀ (f : Nat) (n : Nd) (a : Nat), Ok n → k.size + 1 < f + a + n.label.size → a + n.label.size ≤ k.size →
    wayL k f (some n) a = (List.range (((L k).drop (a + n.label.size)).length + 1)).filterMap (onR n ((L k).drop (a + n.label.size)) (a + n.label.size)) := by
  intro f
  induction f with
  | zero => intro n a _ h1 h2; omega
  | succ f ih =>
    intro n a ho h1 h2
    obtain ⟨a2, ea⟩ : ∃ a2, a + n.label.size = a2 := ⟨_, rfl⟩
    unfold wayL
    rw [ea]
    have hsz : (k.extract a2 k.size).size = k.size - a2 := by simp only [ByteArray.size_extract]; omega
    have hRl : ((L k).drop a2).length = k.size - a2 := by rw [List.length_drop, L_len]
    by_cases hend : a2 = k.size
    · have e1 : downN n (k.extract a2 k.size) = none := by unfold downN; rw [if_pos (by omega)]
      rw [e1, wayL_none]
      exact (way_stop n _ a2 (fun j h3 h4 => by omega)).symm
    · have e1 := downN_eq n ho (k.extract a2 k.size) (by omega)
      rw [L_tail] at e1
      obtain ⟨R, eR⟩ : ∃ R, (L k).drop a2 = R := ⟨_, rfl⟩
      rw [eR] at e1 hRl ⊢
      have hF : ∀ j, 0 < j → j ≤ R.length → nodeT n (R.take j) = (kidT n.kids (hd R)).bind (beneath (R.take j)) := fun j h3 h4 => by
        rw [nodeT_eq _ _ (fun e => by have := congrArg List.length e; rw [List.length_take, List.length_nil] at this; omega), hd_take R j h3]
      cases ek : kidT n.kids (hd R) with
      | none =>
        rw [ek] at e1 hF
        have e2 : downN n (k.extract a2 k.size) = none := e1
        rw [e2, wayL_none]
        exact (way_stop n R a2 (fun j h3 h4 => by rw [hF j h3 h4]; rfl)).symm
      | some m =>
        rw [ek] at e1 hF
        simp only [Option.bind_some] at e1 hF
        have hm := (kidT_some ek).1
        have hpos := ho.parts.2.1 m hm
        have hml : (L m.label).length = m.label.size := L_len _
        by_cases hp : L m.label <+: R
        · rw [if_pos hp] at e1
          have hle := hp.length_le
          rw [hml] at hle
          rw [e1]
          have hI := ih m a2 (ho.parts.2.2.get m hm) (by omega) (by omega)
          have eR2 : (L k).drop (a2 + m.label.size) = R.drop m.label.size := by rw [← eR, List.drop_drop]
          rw [eR2] at hI
          have hRd : (R.drop m.label.size).length = R.length - m.label.size := List.length_drop
          have hsmall : ∀ j, 0 < j → j < m.label.size → nodeT n (R.take j) = none := fun j h3 h4 => by
            rw [hF j h3 (by omega)]
            unfold beneath
            rw [if_neg (fun e => by have := e.2.length_le; rw [hml, List.length_take] at this; omega)]
          have hbig : ∀ j, j ≤ R.length - m.label.size → nodeT n (R.take (m.label.size + j)) = nodeT m ((R.drop m.label.size).take j) := fun j h3 => by
            rw [hF _ (by omega) (by omega)]
            unfold beneath
            have hpre : L m.label <+: R.take (m.label.size + j) := by
              obtain ⟨t, ht⟩ := hp
              rw [← ht, ← hml, List.take_length_add_append]
              exact List.prefix_append _ _
            rw [if_pos ⟨hpos, hpre⟩]
            congr 1
            rw [List.drop_take]
            congr 1
            omega
          obtain ⟨D, eD⟩ : ∃ D, (R.drop m.label.size).length + 1 = D := ⟨_, rfl⟩
          rw [hI, eD, show R.length + 1 = m.label.size + D from by omega, List.range_add, List.filterMap_append, filterMap_head (onR n R a2) (n, a2) m.label.size hpos (by unfold onR; rw [List.take_zero, nodeT_nil]; rfl) (fun j h3 h4 => by unfold onR; rw [hsmall j h3 h4]; rfl), List.filterMap_map]
          show _ :: _ = _ :: _
          congr 1
          refine fm_congr (fun j hj => ?_)
          have hj2 := List.mem_range.1 hj
          show onR m _ _ j = onR n R a2 (m.label.size + j)
          unfold onR
          rw [hbig j (by omega), Nat.add_assoc]
        · rw [if_neg hp] at e1
          rw [e1, wayL_none]
          refine (way_stop n R a2 (fun j h3 h4 => ?_)).symm
          rw [hF j h3 h4]
          unfold beneath
          rw [if_neg (fun e => hp (e.2.trans (List.take_prefix _ _)))]
theorem way_root {root : Nd} (h : Good root) (k : ByteArray) : wayL k (k.size + 2) (some root) 0 = (List.range (k.size + 1)).filterMap (onR root (L k) 0) := by
  have h1 := way_nodes k (k.size + 2) root 0 h.ok (by omega) (by have := h.top; omega)
  rw [h.top] at h1
  simp only [Nat.zero_add, List.drop_zero] at h1
  rw [h1, L_len]
theorem last_on (n : Nd) (R : List UInt8) : ∀ N : Nat, ∃ r, ((List.range (N + 1)).filterMap (onR n R 0)).foldl (fun _ p => p.2) 0 = r ∧ r ≤ N ∧ nodeT n (R.take r) ≠ none ∧ ∀ j, r < j → j ≤ N → nodeT n (R.take j) = none
  | 0 => ⟨0, by
    have e : (List.range (0 + 1)).filterMap (onR n R 0) = [(n, 0)] := filterMap_head _ _ _ (by omega) (by unfold onR; rw [List.take_zero, nodeT_nil]; rfl) (fun j h1 h2 => by omega)
    rw [e]; rfl, Nat.le_refl _, by rw [List.take_zero, nodeT_nil]; simp, fun j h1 h2 => by omega⟩
  | N + 1 => by
    obtain ⟨r, h1, h2, h3, h4⟩ := last_on n R N
    rw [List.range_succ, List.filterMap_append, List.foldl_append, h1]
    cases e : nodeT n (R.take (N + 1)) with
    | none =>
      refine ⟨r, ?_, by omega, h3, fun j h5 h6 => ?_⟩
      · rw [List.filterMap_cons, show onR n R 0 (N + 1) = none from by unfold onR; rw [e]; rfl]; rfl
      · by_cases h7 : j = N + 1
        · rw [h7]; exact e
        · exact h4 j h5 (by omega)
    | some x =>
      refine ⟨N + 1, ?_, Nat.le_refl _, by rw [e]; simp, fun j h5 h6 => by omega⟩
      rw [List.filterMap_cons, show onR n R 0 (N + 1) = some (x, N + 1) from by unfold onR; rw [e, Nat.zero_add]; rfl]; rfl
theorem reach_eq {root : Nd} (h : Good root) (k : ByteArray) : reachN root k ≤ k.size ∧ nodeT root ((L k).take (reachN root k)) ≠ none ∧ ∀ j, reachN root k < j → j ≤ k.size → nodeT root ((L k).take j) = none := by
  obtain ⟨r, h1, h2, h3, h4⟩ := last_on root (L k) k.size
  have e : reachN root k = r := by
    unfold reachN
    rw [wayF_list, way_root h, ← h1]
    rfl
  rw [e]
  exact ⟨h2, h3, h4⟩
end Go.Proofs.YtjhgknagmiekeaaGreat.T
set_option linter.unusedVariables false
set_option linter.unusedSimpArgs false
namespace Go.Proofs.YtjhgknagmiekeaaGreat.G
open Go.RowKit Go.Lib Go.Proofs Go.Conc Go.Maps
open Go.Proofs.YtjhgknagmiekeaaGreatW.PrintWords hiding Kept
open Go.Proofs.YtjhgknagmiekeaaGreat.T (Nd NdAt ptr Tr L All valT wasV Lf Strs wayL wayF)
def CellsOf (w : World) (q : TypeId → Bool) (p : Nat → Prop) : Prop := ∀ k, p k → ∃ cs t fr, w.heap[k]? = some (.cells cs t fr) ∧ q t = true
theorem Only.farP {p : Nat → Prop} {q : TypeId → Bool} {w w' : World} (h : Only p w w') (hp : CellsOf w q p) : FarP q w w' := fun b cs t fr hb ht => h.at hb (fun e => by
  obtain ⟨cs', t', fr', h1, h2⟩ := hp b e
  rw [hb] at h1
  injection h1 with e1
  injection e1 with _ e2 _
  rw [e2, h2] at ht
  cases ht)
theorem Only.watch {p : Nat → Prop} {q : TypeId → Bool} {w w' : World} (h : Only p w w') (hp : CellsOf w q p) (h154 : q 153 = false) {c : Nat} {d : Bool} (hw : WatchAt w (c + 1) c d) : WatchAt w' (c + 1) c d :=
  ⟨h.farP hp _ _ _ _ hw.obj h154, h.at hw.ch (fun e => by
    obtain ⟨cs', t', fr', h1, h2⟩ := hp c e
    rw [hw.ch] at h1
    cases h1)⟩
theorem MkAt.imp {w w' : World} (h : ∀ c d, WatchAt w (c + 1) c d → ∃ d', WatchAt w' (c + 1) c d') {m : Value} (hm : MkAt w m) : MkAt w' m := by
  obtain ⟨c, d, e, hw⟩ := hm
  obtain ⟨d', hw'⟩ := h c d hw
  exact ⟨c, d', e, hw'⟩
theorem TxtRow.far {p : TypeId → Bool} (h9 : p 9 = false) {w w' : World} (h : FarP p w w') {v : Value} {ks : List ByteArray} (ht : TxtRow w v ks) : TxtRow w' v ks := by
  obtain ⟨A, c, e, hs, hb⟩ := ht.slice
  exact ⟨A, c, e, strs_far h9 h hb hs, fun i hi => by
    obtain ⟨ad, cs, fr, e1, e2⟩ := hb i hi
    exact ⟨ad, cs, fr, e1, h _ _ _ _ e2 h9⟩⟩
theorem fold_shoot (w0 : World) : ∀ (l : List Nat) (s : (Nat → Bool) × Int) (x : Nat), (l.foldl (shootC w0) s).1 x = true → s.1 x = true ∨ x ∈ l
  | [], s, x, h => .inl h
  | c :: l, s, x, h => by
    rcases fold_shoot w0 l (shootC w0 s c) x h with h1 | h1
    · have h2 : (s.1 x || x == c) = true := h1
      rw [Bool.or_eq_true] at h2
      rcases h2 with h2 | h2
      · exact .inl h2
      · exact .inr (by rw [beq_iff_eq.1 h2]; exact List.mem_cons_self)
    · exact .inr (List.mem_cons_of_mem _ h1)
theorem marksOn_mks {k : ByteArray} {n : Nd} {a x : Nat} (h : x ∈ marksOn k n a) : ∃ m ∈ mks n, chOf m = x := by
  unfold marksOn at h
  rcases List.mem_cons.1 h with h | h
  · exact ⟨n.mark, mks_mark n, h.symm⟩
  · split at h
    · cases e : n.leaf with
      | none => rw [e] at h; cases h
      | some l =>
        rw [e] at h
        have h2 : x = chOf l.mark := by simpa using h
        exact ⟨l.mark, mks_leaf e, h2.symm⟩
    · cases h
theorem wayL_mks (k : ByteArray) (root : Nd) : ∀ (f : Nat) (o : Option Nd) (a : Nat), (∀ n, o = some n → ∀ m ∈ mks n, m ∈ mks root) → ∀ p ∈ wayL k f o a, ∀ m ∈ mks p.1, m ∈ mks root
  | 0, _, _, _, p, hp, _, _ => by unfold wayL at hp; cases hp
  | _ + 1, none, _, _, p, hp, _, _ => by unfold wayL at hp; cases hp
  | f + 1, some n, a, h, p, hp, m, hm => by
    unfold wayL at hp
    rcases List.mem_cons.1 hp with e | e
    · rw [e] at hm; exact h n rfl m hm
    · refine wayL_mks k root f _ _ (fun x hx m' hm' => ?_) p e m hm
      exact h n rfl m' (mks_kid (T.downN_some hx).1 hm')
theorem fold_way (w0 : World) (k : ByteArray) (root : Nd) : ∀ (l : List (Nd × Nat)) (s : (Nat → Bool) × Int) (x : Nat), (∀ p ∈ l, ∀ m ∈ mks p.1, m ∈ mks root) → (l.foldl (fun s p => stepW w0 k s p.1 p.2) s).1 x = true → s.1 x = true ∨ ∃ m ∈ mks root, chOf m = x
  | [], s, x, _, h => .inl h
  | p :: l, s, x, hl, h => by
    rcases fold_way w0 k root l _ x (fun q hq => hl q (List.mem_cons_of_mem _ hq)) h with h1 | h1
    · rcases fold_shoot w0 _ s x h1 with h2 | h2
      · exact .inl h2
      · obtain ⟨m, h3, h4⟩ := marksOn_mks h2
        exact .inr ⟨m, hl p List.mem_cons_self m h3, h4⟩
    · exact .inr h1
theorem fireK_mks (w0 : World) (root : Nd) (s : (Nat → Bool) × Int) (k : ByteArray) (x : Nat) (h : (fireK w0 root s k).1 x = true) : s.1 x = true ∨ ∃ m ∈ mks root, chOf m = x := by
  unfold fireK at h
  rw [T.wayF_list] at h
  exact fold_way w0 k root _ s x (wayL_mks k root _ _ _ (fun n e m hm => by cases e; exact hm)) h
theorem fold_fire (w0 : World) (root : Nd) : ∀ (ks : List ByteArray) (s : (Nat → Bool) × Int) (x : Nat), (ks.foldl (fireK w0 root) s).1 x = true → s.1 x = true ∨ ∃ m ∈ mks root, chOf m = x
  | [], s, x, h => .inl h
  | k :: ks, s, x, h => by
    rcases fold_fire w0 root ks _ x h with h1 | h1
    · exact fireK_mks w0 root s k x h1
    · exact .inr h1
theorem fireAll_mks (w0 : World) (root : Nd) (ks : List ByteArray) (x : Nat) (h : (fireAll w0 root ks).1 x = true) : ∃ m ∈ mks root, chOf m = x := by
  rcases fold_fire w0 root ks _ x h with h1 | h1
  · cases h1
  · exact h1
end Go.Proofs.YtjhgknagmiekeaaGreat.G
set_option linter.unusedVariables false
set_option linter.unusedSimpArgs false
namespace Go.Proofs.YtjhgknagmiekeaaGreat.T
open Go.RowKit Go.Lib Go.Proofs Go.Proofs.YtjhgknagmiekeaaGreatW.PrintWords
set_option maxHeartbeats 4000000 in
set_option maxRecDepth 100000 in
theorem way104 {σ : Type} (step : σ → Nd → Nat → σ) (Inv : σ → World → Prop) (cb : Nat) (wB w : World) (tb : Nat) (root : Nd) (size : Int) (k : ByteArray) (s0 : σ) (hk : k.size < 4000000000000) (hkw : Kept wB w) (hsz : wB.heap.size ≤ w.heap.size) (ht : TrAt wB tb root size) (ho : Ok root) (hsm : Sm root) (hroot : root.label.size = 0)
    (hinv : Inv s0 w)
    (hcall : ∀ s n a w1, Kept wB w1 → wB.heap.size ≤ w1.heap.size → Inv s w1 → NdAt wB n → a ≤ k.size → Calls Tryz.prog 69 #[ptr n.b, .int .i64 (a : Nat), ptr cb] w1 fun e w' => e = .returned (.tuple #[]) ∧ Inv (step s n a) w' ∧ Below wB.heap.size w1 w') :
    Calls Tryz.prog 68 #[ptr tb, .string k, .func (.func 69) #[] #[ptr cb]] w fun e w' => e = .returned (.tuple #[]) ∧ Inv (wayF step k (k.size + 2) (some root) 0 s0) w' ∧ Below wB.heap.size w w' := by
  have c0 : w.cell? ⟨tb, 0, none⟩ = some (.pointer (some ⟨root.b, 0, none⟩)) := by rw [blk_cell (hkw.at ht.blk)]; rfl
  have HS := Aside0.mk (Stand.mk ht.root ho hsm (by rw [hroot]; omega) : Stand wB k root 0)
  have HC := Aside0.mk hcall
  have HW := Aside0.mk (And.intro hkw (And.intro hsz (And.intro hinv hroot)))
  clear hcall ht ho hsm hkw hsz hinv hroot
  unfold ptr
  go_enter Tryz.func68, Tryz.ntmps68
  go_wp2_with fail
  go_loopg [6, 7] (k.size + 2) (fun kq v6 v7 w' => ∃ (a : Nat) (on : Option Nd) (s : σ) (p : Option Addr), v6 = .int .i64 (a : Int) ∧ v7 = .pointer p ∧ Aside0 (optPtr on = .pointer p ∧ (∀ n, on = some n → Stand wB k n a ∧ k.size + 1 < kq + a + n.label.size) ∧ a ≤ k.size) ∧
    Aside0 (wayF step k kq on a s = wayF step k (k.size + 2) (some root) 0 s0) ∧ Aside0 (Inv s w' ∧ Kept wB w' ∧ wB.heap.size ≤ w'.heap.size ∧ Below wB.heap.size w w'))
  case atStart =>
    refine ⟨0, some root, s0, some ⟨root.b, 0, none⟩, rfl, rfl, ⟨rfl, fun n e => by cases e; exact ⟨HS.out, by have := HW.out.2.2.2; omega⟩, by omega⟩, ⟨rfl⟩, ⟨HW.out.2.2.1, HW.out.1, HW.out.2.1, Below.refl _ _⟩⟩
  case round =>
    obtain ⟨a, on, s, p, rfl, rfl, HO, HF, HI⟩ := hrel
    cases on with
    | none =>
      have ep : p = none := by have := HO.out.1; simpa [optPtr] using this.symm
      subst ep
      go_wp2_with fail
      refine bodyPost_end (results_none rfl _ _ _) rfl ?_
      refine ⟨rfl, ?_, HI.out.2.2.2⟩
      rw [← HF.out, wayF_none]
      exact HI.out.1
    | some n =>
      have ep : p = some ⟨n.b, 0, none⟩ := by have := HO.out.1; simpa [optPtr, ptr] using this.symm
      subst ep
      obtain ⟨hst, hq⟩ := HO.out.2.1 n rfl
      obtain ⟨kvn, hbn, _, _, _⟩ := hst.at_.parts
      have cl : wr.cell? ⟨n.b, 0, none⟩ = some (.string n.label) := by rw [blk_cell (HI.out.2.1.at hbn)]; rfl
      have hle := hst.le
      obtain ⟨a2, ea2⟩ : ∃ a2, a + n.label.size = a2 := ⟨_, rfl⟩
      have ha2 : a2 ≤ k.size := by omega
      have ha2I : (a2 : Int) ≤ (k.size : Int) := by omega
      have ew : wrap64 ((a : Int) + (n.label.size : Int)) = (a2 : Int) := by unfold wrap64; omega
      have ew2 : (a : Int) + (n.label.size : Int) = (a2 : Int) := by omega
      have q1 := Aside0.mk (HC.out s n a2 wr HI.out.2.1 HI.out.2.2.1 HI.out.1 hst.at_ ha2)
      have HST := Aside0.mk (And.intro hst (And.intro hq ea2))
      have HEW := Aside0.mk ew
      clear hst hq hbn hle ea2 ew
      unfold ptr at q1
      go_wp2_with (go_at_call 69; refine q1.out.mono ?_)
      rintro e w2 ⟨rfl, hi2, hb2⟩
      have hs2 := hb2.size
      have hk2 : Kept wB w2 := fun x hx => (hb2.block x hx).trans (HI.out.2.1 x hx)
      obtain ⟨p2, ep2⟩ := optPtr_form (downN n (k.extract a2 k.size))
      have q2 := downC w2 n (NdAt.keep hk2 n HST.out.1.at_) HST.out.1.ok (k.extract a2 k.size)
      rw [ep2] at q2
      have q3 := Aside0.mk q2
      have H2 := Aside0.mk (And.intro hi2 (And.intro hb2 (And.intro hk2 ep2)))
      clear hi2 hb2 hk2 ep2 q2 q1 hs2
      unfold ptr at q3
      go_wp2_with (go_at_call 89; refine q3.out.mono ?_)
      rintro e w3 ⟨rfl, rfl⟩
      clear q3
      go_wp2_with fail
      obtain ⟨hst, hq, ea2⟩ := HST.out
      cases hgk : gk with
      | zero => exfalso; have := hst.le; rw [hgk] at hq; omega
      | succ g1 =>
        go_roundg g1
        case measure => omega
        case rel =>
          obtain ⟨hi2, hb2, hk2, ep2⟩ := H2.out
          have hf := HF.out
          rw [hgk] at hf
          unfold wayF at hf
          rw [ea2] at hf
          refine ⟨a2, downN n (k.extract a2 k.size), step s n a2, p2, rfl, rfl, ⟨ep2, fun m em => ?_, ha2⟩, ⟨hf⟩, ⟨hi2, hk2, by have := HI.out.2.2.1; have := hb2.size; omega, HI.out.2.2.2.trans hb2⟩⟩
          obtain ⟨hm, hml⟩ := downN_some em
          have hse : (k.extract a2 k.size).size = k.size - a2 := by simp only [ByteArray.size_extract]; omega
          have hpos := hst.ok.parts.2.1 m hm
          obtain ⟨ii, hii, eii⟩ := List.getElem_of_mem hm
          refine ⟨⟨?_, hst.ok.parts.2.2.get m hm, hst.sm.parts.2.mem m hm, by omega⟩, by rw [hgk] at hq; omega⟩
          rw [← eii]
          exact hst.at_.parts.choose_spec.2.2.2.get ii hii
def stepM (_ : Value) (n : Nd) (_ : Nat) : Value := n.mark
def InvM (cb : Nat) (s : Value) (w : World) : Prop := w.heap[cb]? = some (.cells #[s] 80 (0, 0)) ∧ ∃ p, s = .pointer p
theorem nd_mark {w : World} : ∀ {n : Nd}, NdAt w n → ∃ m, n.mark = ptr m
  | .mk _ _ _ _ _, h => by unfold NdAt at h; exact h.2.2.2
set_option maxHeartbeats 4000000 in
set_option maxRecDepth 100000 in
theorem callM (wB : World) (cb : Nat) (hcb : wB.heap.size ≤ cb) (s : Value) (n : Nd) (a : Nat) (w1 : World) (hk : Kept wB w1) (hi : InvM cb s w1) (hn : NdAt wB n) :
    Calls Tryz.prog 69 #[ptr n.b, .int .i64 (a : Nat), ptr cb] w1 fun e w' => e = .returned (.tuple #[]) ∧ InvM cb (stepM s n a) w' ∧ Below wB.heap.size w1 w' := by
  obtain ⟨kv, hb, _, _, _⟩ := hn.parts
  obtain ⟨m, em⟩ := nd_mark hn
  rw [em] at hb
  have c3 : w1.cell? ⟨n.b, 3, none⟩ = some (.pointer (some ⟨m, 0, none⟩)) := by rw [blk_cell (hk.at hb)]; rfl
  have cc : w1.cell? ⟨cb, 0, none⟩ = some s := by rw [blk_cell hi.1]; rfl
  have fc : w1.frozen? ⟨cb, 0, none⟩ = false := blk_frozen hi.1 0
  have HI := Aside0.mk (And.intro hi (And.intro em hcb))
  clear hi hb hk hn em
  unfold ptr
  go_enter Tryz.func69, Tryz.ntmps69
  go_wp2_with fail
  refine bodyPost_end (results_none rfl _ _ _) rfl ?_
  refine ⟨rfl, ?_, below_set wB w1 cb HI.out.2.2 _⟩
  have e : stepM s n a = ptr m := HI.out.2.1
  rw [e]
  exact ⟨put_one w1 HI.out.1.1, _, rfl⟩
def markN (root : Nd) (k : ByteArray) : Value := wayF stepM k (k.size + 2) (some root) 0 (.pointer none)
set_option maxHeartbeats 4000000 in
set_option maxRecDepth 100000 in
theorem treeUnder (w : World) (tb : Nat) (root : Nd) (h : Tr w tb root) (k : ByteArray) (hk : k.size < 4000000000000) :
    Calls Tryz.prog 31 #[ptr tb, .string k] w fun e w' => e = .returned (markN root k) ∧ Below w.heap.size w w' := by
  have hk0 : Kept w (w.alloc (.cells #[.pointer none] 80)) := Kept.of ((Below.refl _ w).alloc (Nat.le_refl _) _)
  have q1 := Aside0.mk (way104 stepM (InvM w.heap.size) w.heap.size w (w.alloc (.cells #[.pointer none] 80)) tb root _ k (.pointer none) hk hk0 (by simp only [World.size_alloc]; omega) h.at_ h.fine.ok h.fine.sm h.fine.top ⟨heap_alloc_new w _, _, rfl⟩
    (fun s n a w1 h1 h2 h3 h4 h5 => callM w w.heap.size (Nat.le_refl _) s n a w1 h1 h3 h4))
  clear h hk0
  have eM : wayF stepM k (k.size + 2) (some root) 0 (.pointer none) = markN root k := rfl
  rw [eM] at q1
  clear eM
  obtain ⟨mv, emv⟩ : ∃ mv, markN root k = mv := ⟨_, rfl⟩
  rw [emv] at q1 ⊢
  clear emv
  unfold ptr at q1 ⊢
  go_enter Tryz.func31, Tryz.ntmps31
  go_wp2_with (go_at_call 68; refine q1.out.mono ?_)
  rintro e w2 ⟨rfl, ⟨hi, p, rfl⟩, hb⟩
  have cc : w2.cell? ⟨w.heap.size, 0, none⟩ = some (.pointer p) := by rw [blk_cell hi]; rfl
  have HB : Aside0 (Below w.heap.size w w2) := ⟨((Below.refl _ w).alloc (Nat.le_refl _) _).trans hb⟩
  clear hi hb q1
  go_wp2_with fail
  go_ret
  exact ⟨rfl, HB.out⟩
theorem seek_mks {root : Nd} {k : ByteArray} {l : Lf} (h : seekN root k = some l) : l.mark ∈ G.mks root := by
  unfold seekN at h
  rw [wayF_list] at h
  have hw := G.wayL_mks k root (k.size + 2) (some root) 0 (fun n e m hm => by cases e; exact hm)
  have key : ∀ (ps : List (Nd × Nat)) (s : Option Lf), (∀ p ∈ ps, ∀ m ∈ G.mks p.1, m ∈ G.mks root) → (∀ x, s = some x → x.mark ∈ G.mks root) → ps.foldl (fun s p => stepF k s p.1 p.2) s = some l → l.mark ∈ G.mks root := by
    intro ps
    induction ps with
    | nil => intro s _ hs e; exact hs l e
    | cons p ps ih =>
      intro s hp hs e
      refine ih _ (fun q hq => hp q (List.mem_cons_of_mem _ hq)) (fun x ex => ?_) e
      have ex2 : (if p.2 = k.size then p.1.leaf else s) = some x := ex
      split at ex2
      · exact hp p List.mem_cons_self _ (G.mks_leaf ex2)
      · exact hs x ex2
  exact key _ none hw (fun x e => by cases e) h
def watchN (root : Nd) (k : ByteArray) : Value := match seekN root k with | some l => l.mark | none => markN root k
set_option maxHeartbeats 4000000 in
set_option maxRecDepth 100000 in
theorem treeWatch (w : World) (tb : Nat) (root : Nd) (h : Tr w tb root) (hM : G.Mks w root) (k : ByteArray) (hk : k.size < 4000000000000) :
    Calls Tryz.prog 32 #[ptr tb, .string k] w fun e w' => e = .returned (watchN root k) ∧ Below w.heap.size w w' := by
  have q1 := Aside0.mk (treeFind w tb root _ k h.at_ h.fine.ok h.fine.sm h.fine.top hk)
  have HH := Aside0.mk (And.intro h hM)
  clear h hM
  unfold watchN
  cases es : seekN root k with
  | none =>
    rw [es] at q1
    unfold leafPtr ptr at q1
    unfold ptr
    clear es
    show Calls _ _ _ _ fun e w' => e = .returned (markN root k) ∧ _
    obtain ⟨mv, emv⟩ : ∃ mv, markN root k = mv := ⟨_, rfl⟩
    have HE := Aside0.mk emv
    rw [emv]
    clear emv
    go_enter Tryz.func32, Tryz.ntmps32
    go_wp2_with fail
    go_at_call 40
    refine q1.out.mono ?_
    rintro e w1 ⟨rfl, -, hb⟩
    have q2 := Aside0.mk (treeUnder w1 tb root (HH.out.1.keep (Kept.of hb)) k hk)
    have HB := Aside0.mk hb
    clear hb q1
    rw [HE.out] at q2
    unfold ptr at q2
    go_wp2_with fail
    go_at_call 31
    refine q2.out.mono ?_
    rintro e w2 ⟨rfl, hb2⟩
    have HB2 := Aside0.mk hb2
    clear hb2 q2
    go_wp2_with fail
    go_ret
    exact ⟨rfl, belowAt HB.out HB2.out⟩
  | some l =>
    obtain ⟨c, d, em, hw⟩ := HH.out.2 _ (seek_mks es)
    have HE := Aside0.mk em
    rw [es] at q1
    unfold leafPtr ptr at q1
    unfold ptr
    clear es hw em
    show Calls _ _ _ _ fun e w' => e = .returned l.mark ∧ _
    rw [HE.out]
    go_enter Tryz.func32, Tryz.ntmps32
    go_wp2_with fail
    go_at_call 40
    refine q1.out.mono ?_
    rintro e w1 ⟨rfl, hl, hb⟩
    have hl1 := (Kept.of hb).at (hl l rfl)
    rw [HE.out] at hl1
    have c2 : w1.cell? ⟨l.b, 2, none⟩ = some (.pointer (some ⟨c + 1, 0, none⟩)) := by rw [blk_cell hl1]; rfl
    have HB := Aside0.mk hb
    clear hb hl hl1 q1
    go_wp2_with fail
    go_ret
    exact ⟨rfl, HB.out⟩
end Go.Proofs.YtjhgknagmiekeaaGreat.T
set_option linter.unusedVariables false
set_option linter.unusedSimpArgs false
namespace Go.Proofs.YtjhgknagmiekeaaGreat.T
theorem in_insAt {α : Type} {i : Nat} {x y : α} {l : List α} (h : y ∈ l) : y ∈ insAt i x l := by
  unfold insAt
  rw [← List.take_append_drop i l] at h
  rcases List.mem_append.1 h with h | h
  · exact List.mem_append.2 (.inl h)
  · exact List.mem_append.2 (.inr (List.mem_cons_of_mem _ h))
theorem at_set {α : Type} {i : Nat} {x : α} {l : List α} (h : i < l.length) : x ∈ l.set i x :=
  List.mem_iff_getElem.2 ⟨i, by rw [List.length_set]; exact h, List.getElem_set_self _⟩
theorem node_low (k : Nd) (p b : Nat) {t : List UInt8} (ht : t ≠ []) : nodeT (lowN k p b) t = nodeT k t := by
  rw [nodeT_eq _ _ ht, nodeT_eq _ _ ht]
  rfl
theorem tip_node {rest : ByteArray} {l : Lf} {s : Nat × Value} {t : List UInt8} {X : Nd} (h : nodeT (tipN rest l s) t = some X) : X.mark = s.2 := by
  by_cases ht : t = []
  · rw [ht, nodeT_nil] at h
    cases h
    rfl
  · rw [nodeT_eq _ _ ht] at h
    cases h
theorem low_split {k : Nd} {p : Nat} {rest : ByteArray} {l : Lf} {ns : Sup} : lowN k p (ns 2).1 ∈ (splitN k p rest l ns).kids := by
  unfold splitN
  split
  · exact List.mem_singleton.2 rfl
  · exact in_insAt (List.mem_singleton.2 rfl)
theorem split_label {k : Nd} {p : Nat} {rest : ByteArray} {l : Lf} {ns : Sup} : (splitN k p rest l ns).label = rest.extract 0 p ∧ (splitN k p rest l ns).mark = (ns 1).2 := by
  unfold splitN
  split <;> exact ⟨rfl, rfl⟩
theorem split_kids {k x : Nd} {p : Nat} {rest : ByteArray} {l : Lf} {ns : Sup} (h : x ∈ (splitN k p rest l ns).kids) : x = lowN k p (ns 2).1 ∨ ∃ r, x = tipN r l (ns 3) := by
  unfold splitN at h
  split at h
  · exact .inl (List.mem_singleton.1 h)
  · rcases mem_insAt h with e | e
    · exact .inr ⟨_, e⟩
    · exact .inl (List.mem_singleton.1 e)
theorem insN_mark (n : Nd) (rest : ByteArray) (l : Lf) (ns : Sup) : (insN n rest l ns).mark = (ns 0).2 := by
  rw [insN]
  split
  · rfl
  · split
    · rfl
    · split <;> rfl
theorem node_split {k : Nd} {p : Nat} {rest : ByteArray} {l : Lf} {ns : Sup} (ho : Ok (splitN k p rest l ns)) (hp : p ≤ k.label.size) {t : List UInt8} {X : Nd} (h : nodeT k t = some X) :
    ∃ X', nodeT (splitN k p rest l ns) ((L k.label).drop p ++ t) = some X' ∧ X'.mark = X.mark := by
  have e := nodeT_kid ho (low_split (k := k) (p := p) (rest := rest) (l := l) (ns := ns)) t
  have el : L (lowN k p (ns 2).1).label = (L k.label).drop p := by
    show L (k.label.extract p k.label.size) = _
    rw [L_extract, List.take_of_length_le (by rw [L_len]; exact Nat.le_refl _)]
  rw [el] at e
  by_cases ht : t = []
  · subst ht
    rw [nodeT_nil] at h e
    cases h
    exact ⟨_, e, rfl⟩
  · rw [node_low _ _ _ ht, h] at e
    exact ⟨X, e, rfl⟩
theorem node_keep : ∀ (N : Nat) (rest : ByteArray), rest.size ≤ N → ∀ n, Ok n → ∀ (l : Lf) (ns : Sup) (r : List UInt8) (X : Nd), nodeT n r = some X → ¬ r <+: L rest → ∃ X', nodeT (insN n rest l ns) r = some X' ∧ X'.mark = X.mark := by
  intro N
  induction N with
  | zero =>
    intro rest hN n ho l ns r X h hr
    have hoi := ok_ins 0 rest hN n ho l ns
    rw [insN, dif_pos (by omega)] at hoi ⊢
    rcases nodeT_of ho h with ⟨e, -⟩ | ⟨k, hk, t, e, ht⟩
    · exact absurd (by rw [e]; exact List.nil_prefix) hr
    · subst e
      exact ⟨X, (nodeT_kid hoi (k := k) hk t).trans ht, rfl⟩
  | succ N ih =>
    intro rest hN n ho l ns r X h hr
    have hoi := ok_ins (N + 1) rest hN n ho l ns
    rcases nodeT_of ho h with ⟨e, -⟩ | ⟨k, hk, t, e, ht⟩
    · exact absurd (by rw [e]; exact List.nil_prefix) hr
    subst e
    by_cases h0 : rest.size = 0
    · rw [insN, dif_pos h0] at hoi ⊢
      exact ⟨X, (nodeT_kid hoi (k := k) hk t).trans ht, rfl⟩
    · rw [insN, dif_neg h0] at hoi ⊢
      cases e : kidN n rest with
      | none =>
        rw [e] at hoi
        simp only [] at hoi ⊢
        exact ⟨X, (nodeT_kid hoi (k := k) (in_insAt hk) t).trans ht, rfl⟩
      | some k0 =>
        rw [e] at hoi
        simp only [] at hoi ⊢
        obtain ⟨hh, hlt, ek⟩ := kidN_some e
        have key : ∀ c : Nd, Ok (.mk (ns 0).1 n.label n.leaf (n.kids.set (pos (n.kids.map fb) (fbS rest)) c) (ns 0).2) → (k = k0 → ∃ X', nodeT (.mk (ns 0).1 n.label n.leaf (n.kids.set (pos (n.kids.map fb) (fbS rest)) c) (ns 0).2) (L k.label ++ t) = some X' ∧ X'.mark = X.mark) →
            ∃ X', nodeT (.mk (ns 0).1 n.label n.leaf (n.kids.set (pos (n.kids.map fb) (fbS rest)) c) (ns 0).2) (L k.label ++ t) = some X' ∧ X'.mark = X.mark := by
          intro c hoc hc
          obtain ⟨j, hj, ej⟩ := List.getElem_of_mem hk
          by_cases hji : pos (n.kids.map fb) (fbS rest) = j
          · subst hji
            exact hc (ej.symm.trans ek)
          · have hm : k ∈ n.kids.set (pos (n.kids.map fb) (fbS rest)) c := List.mem_iff_getElem.2 ⟨j, by rw [List.length_set]; exact hj, by rw [List.getElem_set_ne hji]; exact ej⟩
            exact ⟨X, (nodeT_kid hoc (k := k) hm t).trans ht, rfl⟩
        have hcl := comB_le k0.label rest
        split
        · rename_i hp
          rw [dif_pos hp] at hoi
          refine key _ hoi (fun ekk => ?_)
          subst ekk
          have e1 := nodeT_kid hoi (k := insN k (rest.extract (comB k.label rest) rest.size) l (fun j => ns (j + 1))) (at_set hlt) t
          rw [insN_label] at e1
          rw [e1]
          refine ih _ (by simp only [ByteArray.size_extract]; omega) k (ho.parts.2.2.get k hk) _ _ t X ht (fun hpre => hr ?_)
          obtain ⟨u, hu⟩ := (comB_prefix k.label rest).1 hp.2
          have e2 : L (rest.extract (comB k.label rest) rest.size) = u := by
            rw [L_extract, List.take_of_length_le (by rw [L_len]; exact Nat.le_refl _), ← hu, hp.2, ← L_len, List.drop_left]
          rw [e2] at hpre
          rw [← hu]
          exact (List.prefix_append_right_inj _).2 hpre
        · rename_i hp
          rw [dif_neg hp] at hoi
          refine key _ hoi (fun ekk => ?_)
          subst ekk
          have hos : Ok (splitN k (comB k.label rest) rest l ns) := hoi.parts.2.2.get _ (at_set hlt)
          have e1 := nodeT_kid hoi (k := splitN k (comB k.label rest) rest l ns) (at_set hlt) ((L k.label).drop (comB k.label rest) ++ t)
          have e2 : L (splitN k (comB k.label rest) rest l ns).label = (L k.label).take (comB k.label rest) := by
            rw [split_label.1, L_extract, List.drop_zero]
            exact (com_take _ _).symm
          rw [e2, ← List.append_assoc, List.take_append_drop] at e1
          rw [e1]
          exact node_split hos hcl.1 ht
theorem node_new : ∀ (N : Nat) (rest : ByteArray), rest.size ≤ N → ∀ n, Ok n → ∀ (l : Lf) (ns : Sup) (r : List UInt8) (X' : Nd), nodeT (insN n rest l ns) r = some X' → (∃ r' X, nodeT n r' = some X ∧ X'.mark = X.mark) ∨ ∃ j, X'.mark = (ns j).2 := by
  intro N
  induction N with
  | zero =>
    intro rest hN n ho l ns r X' h
    have hoi := ok_ins 0 rest hN n ho l ns
    rcases nodeT_of hoi h with ⟨-, e⟩ | ⟨k, hk, t, -, ht⟩
    · exact .inr ⟨0, by rw [e, insN_mark]⟩
    · rw [insN, dif_pos (by omega)] at hk
      exact .inl ⟨_, X', (nodeT_kid ho (k := k) hk t).trans ht, rfl⟩
  | succ N ih =>
    intro rest hN n ho l ns r X' h
    have hoi := ok_ins (N + 1) rest hN n ho l ns
    rcases nodeT_of hoi h with ⟨-, e⟩ | ⟨k, hk, t, -, ht⟩
    · exact .inr ⟨0, by rw [e, insN_mark]⟩
    have hok := hoi.parts.2.2.get k hk
    by_cases h0 : rest.size = 0
    · rw [insN, dif_pos h0] at hk
      exact .inl ⟨_, X', (nodeT_kid ho (k := k) hk t).trans ht, rfl⟩
    · rw [insN, dif_neg h0] at hk
      cases e : kidN n rest with
      | none =>
        rw [e] at hk
        rcases mem_insAt hk with e2 | e2
        · subst e2
          exact .inr ⟨_, tip_node ht⟩
        · exact .inl ⟨_, X', (nodeT_kid ho (k := k) e2 t).trans ht, rfl⟩
      | some k0 =>
        rw [e] at hk
        simp only [] at hk
        obtain ⟨hh, hlt, ek⟩ := kidN_some e
        have hkm : k0 ∈ n.kids := by rw [← ek]; exact List.getElem_mem _
        split at hk
        · rcases List.mem_or_eq_of_mem_set hk with e2 | e2
          · exact .inl ⟨_, X', (nodeT_kid ho (k := k) e2 t).trans ht, rfl⟩
          · subst e2
            rcases ih _ (by simp only [ByteArray.size_extract]; omega) k0 (ho.parts.2.2.get k0 hkm) _ _ t X' ht with ⟨r', X, h1, h2⟩ | ⟨j, h1⟩
            · exact .inl ⟨_, X, (nodeT_kid ho (k := k0) hkm r').trans h1, h2⟩
            · exact .inr ⟨j + 1, h1⟩
        · rcases List.mem_or_eq_of_mem_set hk with e2 | e2
          · exact .inl ⟨_, X', (nodeT_kid ho (k := k) e2 t).trans ht, rfl⟩
          · subst e2
            rcases nodeT_of hok ht with ⟨-, e3⟩ | ⟨x, hx, u, -, hu⟩
            · exact .inr ⟨1, by rw [e3, split_label.2]⟩
            · rcases split_kids hx with e3 | ⟨q, e3⟩
              · subst e3
                by_cases hun : u = []
                · rw [hun, nodeT_nil] at hu
                  cases hu
                  exact .inl ⟨_, k0, (nodeT_kid ho (k := k0) hkm []).trans (nodeT_nil k0), rfl⟩
                · rw [node_low _ _ _ hun] at hu
                  exact .inl ⟨_, X', (nodeT_kid ho (k := k0) hkm u).trans hu, rfl⟩
              · subst e3
                exact .inr ⟨_, tip_node hu⟩
end Go.Proofs.YtjhgknagmiekeaaGreat.T
namespace Go.Proofs.YtjhgknagmiekeaaGreat.G
open Go.Proofs.YtjhgknagmiekeaaGreat.T
theorem fold_shoot_iff (w0 : World) : ∀ (l : List Nat) (s : (Nat → Bool) × Int) (x : Nat), (l.foldl (shootC w0) s).1 x = true ↔ s.1 x = true ∨ x ∈ l
  | [], s, x => by simp
  | c :: l, s, x => by
    rw [List.foldl_cons, fold_shoot_iff w0 l]
    show ((s.1 x || x == c) = true ∨ _) ↔ _
    rw [Bool.or_eq_true, beq_iff_eq, List.mem_cons, or_assoc]
theorem fold_step_iff (w0 : World) (k : ByteArray) : ∀ (ps : List (Nd × Nat)) (s : (Nat → Bool) × Int) (x : Nat), (ps.foldl (fun s p => stepW w0 k s p.1 p.2) s).1 x = true ↔ s.1 x = true ∨ ∃ p ∈ ps, x ∈ marksOn k p.1 p.2
  | [], s, x => by simp
  | p :: ps, s, x => by
    rw [List.foldl_cons, fold_step_iff w0 k ps]
    show (((marksOn k p.1 p.2).foldl (shootC w0) s).1 x = true ∨ _) ↔ _
    rw [fold_shoot_iff, or_assoc]
    refine or_congr Iff.rfl ⟨fun h => ?_, fun h => ?_⟩
    · rcases h with h | ⟨q, hq, h⟩
      · exact ⟨p, List.mem_cons_self, h⟩
      · exact ⟨q, List.mem_cons_of_mem _ hq, h⟩
    · obtain ⟨q, hq, h⟩ := h
      rcases List.mem_cons.1 hq with e | e
      · subst e; exact .inl h
      · exact .inr ⟨q, e, h⟩
theorem fire_key {root : Nd} (h : T.Good root) (w0 : World) (k : ByteArray) (x : Nat) : (fireAll w0 root [k]).1 x = true ↔ (∃ j, j ≤ k.size ∧ ∃ X, nodeT root ((L k).take j) = some X ∧ chOf X.mark = x) ∨ ∃ l, findT root (L k) = some l ∧ chOf l.mark = x := by
  have e : fireAll w0 root [k] = (wayL k (k.size + 2) (some root) 0).foldl (fun s p => stepW w0 k s p.1 p.2) (fun _ => false, 0) := by
    unfold fireAll
    rw [List.foldl_cons, List.foldl_nil]
    unfold fireK
    exact wayF_list _ _ _ _ _ _
  have hfk : findT root (L k) = (nodeT root (L k)).bind Nd.leaf := findT_node _ root (L k) (Nat.le_refl _)
  have htk : (L k).take k.size = L k := List.take_of_length_le (by rw [L_len]; exact Nat.le_refl _)
  rw [e, fold_step_iff, way_root h]
  refine ⟨fun hx => ?_, fun hx => .inr ?_⟩
  · rcases hx with hx | ⟨p, hp, hx⟩
    · cases hx
    · obtain ⟨j, hj, ej⟩ := List.mem_filterMap.1 hp
      have hj2 := List.mem_range.1 hj
      unfold onR at ej
      obtain ⟨X, hX, eX⟩ := Option.map_eq_some_iff.1 ej
      subst eX
      unfold marksOn at hx
      rcases List.mem_cons.1 hx with hx | hx
      · exact .inl ⟨j, by omega, X, hX, hx.symm⟩
      · split at hx
        · rename_i hjk
          have hjk2 : j = k.size := by simpa using hjk
          cases hl : X.leaf with
          | none => rw [hl] at hx; cases hx
          | some l =>
            rw [hl] at hx
            have h2 : x = chOf l.mark := by simpa using hx
            refine .inr ⟨l, ?_, h2.symm⟩
            rw [hjk2, htk] at hX
            rw [hfk, hX]
            exact hl
        · cases hx
  · rcases hx with ⟨j, hj, X, hX, ex⟩ | ⟨l, hl, ex⟩
    · refine ⟨(X, 0 + j), List.mem_filterMap.2 ⟨j, List.mem_range.2 (by omega), by unfold onR; rw [hX]; rfl⟩, ?_⟩
      unfold marksOn
      exact List.mem_cons.2 (.inl ex.symm)
    · rw [hfk] at hl
      obtain ⟨X, hX, hl⟩ := Option.bind_eq_some_iff.1 hl
      refine ⟨(X, 0 + k.size), List.mem_filterMap.2 ⟨k.size, List.mem_range.2 (by omega), by unfold onR; rw [htk, hX]; rfl⟩, ?_⟩
      unfold marksOn
      refine List.mem_cons.2 (.inr ?_)
      rw [if_pos (by simp)]
      show x ∈ (X.leaf.map _).toList
      rw [hl]
      exact List.mem_singleton.2 ex.symm
end Go.Proofs.YtjhgknagmiekeaaGreat.G
set_option linter.unusedVariables false
set_option linter.unusedSimpArgs false
namespace Go.Proofs.YtjhgknagmiekeaaGreat.T
open Go.RowKit Go.Lib Go.Proofs Go.Proofs.YtjhgknagmiekeaaGreatW.PrintWords
set_option maxHeartbeats 4000000 in
set_option maxRecDepth 100000 in
theorem treeInsertM (w : World) (tb : Nat) (root : Nd) (size v : Int) (k : ByteArray) (h : TrAt w tb root size) (ho : Ok root) (hsm : Sm root) (hk : k.size < 4000000000000) (hs0 : 0 ≤ size) (hs1 : size < 4000000000000) :
    Calls Tryz.prog 27 #[ptr tb, .string k, .int .i64 v] w fun e w' => ∃ (tb' lb : Nat) (m : Value) (ns : Sup) (had : Bool) (old : Value), e = .returned (.tuple #[ptr tb', old, .bool had]) ∧ TrAt w' tb' (insN root k ⟨lb, k, .int .i64 v, m⟩ ns) (size + incr had) ∧
      (had, old) = hadOld (findN root k) ∧ w.heap.size ≤ tb' ∧ w.heap.size ≤ lb ∧ NewMark w.heap.size w' m ∧ SupOk w.heap.size w' ns ∧ (∀ j, m ≠ (ns j).2) ∧ Below w.heap.size w w' := by
  have q1 := Aside0.mk (sclone w k hk)
  have c0 : w.cell? ⟨tb, 0, none⟩ = some (.pointer (some ⟨root.b, 0, none⟩)) := by rw [blk_cell h.blk]; rfl
  have c1 : w.cell? ⟨tb, 1, none⟩ = some (.int .i64 size) := by rw [blk_cell h.blk]; rfl
  have HT := Aside0.mk h
  have HO := Aside0.mk (And.intro ho hsm)
  clear h ho hsm
  unfold ptr
  go_enter Tryz.func27, Tryz.ntmps27
  go_wp2_with (go_at_call 60; refine q1.out.mono ?_)
  rintro e w1 ⟨rfl, B1⟩
  have d0 := (Kept.of B1).cell c0
  have d1 := (Kept.of B1).cell c1
  have HB1 := Aside0.mk B1
  have h1 := HT.out.keep (Kept.of B1)
  have tf := three_facts w1 (.chan 0 #[] false 0 0 false) (.cells #[.int .u32 0, .int .i32 0, .int .u32 0, .chan (some w1.heap.size)] 153) (.cells #[.string k, .int .i64 v, .pointer (some ⟨w1.heap.size + 1, 0, none⟩)] 134)
  have q7 := Aside0.mk (insertC k.size k (Nat.le_refl _) hk root ⟨w1.heap.size + 1 + 1, k, .int .i64 v, .pointer (some ⟨w1.heap.size + 1, 0, none⟩)⟩ (leafW w1 k v).drew (leafW w1 k v).drew (fun _ _ => rfl) (Nat.le_refl _) (NdAt.keep (show Kept w1 (leafW w1 k v).drew from fun x hx => Kept.of tf.2.2.2.2 x hx) _ h1.root) HO.out.1 HO.out.2 (fun l e => by cases e; exact tf.2.2.2.1))
  have HTF := Aside0.mk tf
  clear B1 h1 tf q1
  unfold ptr at q7
  go_wp2_with fail
  go_region_held3 (fun w' => w'.cell? ⟨tb, 0, none⟩ = some (.pointer (some ⟨root.b, 0, none⟩)))
    (first | exact d0 | exact cellA d0 | exact cellA (cellA d0) | exact cellA (cellA (cellA d0)) | exact f0)
    (first
      | (go_at_call 62; refine (watchNew _).mono ?_; rintro e wz ⟨rfl, rfl⟩; unfold ptr watchObj)
      | (go_at_call 61; refine q7.out.mono ?_; rintro e w4 ⟨ns, rfl, hr, hsu, hb4⟩; have f0 := (Kept.of hb4).cell (cellA (cellA (cellA d0))); have f1 := (Kept.of hb4).cell (cellA (cellA (cellA d1))); have H4 := Aside0.mk (And.intro hr (And.intro hsu hb4)); clear hr hsu hb4))
  have hfat := findN_at w k.size k (Nat.le_refl _) root HT.out.root
  cases hfo : findN root k with
  | none =>
    rw [hfo] at hfat
    have q8 := Aside0.mk (fun W => told W none (fun l e => by cases e))
    unfold leafPtr toldV at q8
    unfold leafPtr
    have HFO := Aside0.mk hfo
    clear hfo hfat
    go_wp2_with (go_at_call 41; refine (q8.out _).mono ?_; rintro e w5 ⟨rfl, Q5⟩; have HQ5 := Aside0.mk Q5; clear Q5)
    go_ret3
    obtain ⟨hr, hsu, hb4⟩ := H4.out
    have hsw1 := HB1.out.size
    have hsl : (leafW w1 k v).heap.size = w1.heap.size + 3 := HTF.out.1
    have hsl2 : (leafW w1 k v).heap.size ≤ w4.heap.size := hb4.size
    have B4 : Below w.heap.size w w4 := (HB1.out.trans ⟨HTF.out.2.2.2.2.os, HTF.out.2.2.2.2.tape, HTF.out.2.2.2.2.output, HTF.out.2.2.2.2.size, fun x hx => HTF.out.2.2.2.2.block x (by omega)⟩).trans ⟨hb4.os, hb4.tape, hb4.output, hb4.size, fun x hx => hb4.block x (by show x < (leafW w1 k v).heap.size; omega)⟩
    have QO := HQ5.out
    have hh5 := QO.heap
    have K45 : Kept w4 w5 := (Kept.of ((Below.refl _ w4).alloc (Nat.le_refl _) _)).trans QO.kept (by simp only [World.size_alloc]; omega)
    refine ⟨w4.heap.size, w1.heap.size + 1 + 1, .pointer (some ⟨w1.heap.size + 1, 0, none⟩), ns, false, .int .i64 0, rfl, ⟨?_, ?_⟩, by rw [HFO.out]; rfl, by omega, by omega, ?_, ⟨fun j => ?_, fun j => ?_⟩, (fun j e => by
      obtain ⟨c, e1, e2, _, _⟩ := hsu.mark j
      have h2 : (leafW w1 k v).heap.size ≤ c := e2
      rw [e1] at e
      unfold ptr at e
      injection e with e
      injection e with e
      injection e with e
      omega), (B4.alloc (by omega) _).trans (QO.below _)⟩
    · rw [hh5, insN_b]
      exact heap_alloc_new w4 _
    · exact NdAt.keep K45 _ (hr w4 (Ag.refl _ _ _))
    · exact NewMark.keep (w := w4) ⟨w1.heap.size, rfl, hsw1, (Kept.of hb4).at HTF.out.2.1, (Kept.of hb4).at HTF.out.2.2.1⟩ K45
    · have h1 := hsu.new j
      have h2 : (leafW w1 k v).heap.size ≤ (ns j).1 := h1.1
      have h3 : w4.heap.size + 1 = w5.heap.size := by rw [hh5]; simp only [World.size_alloc]
      omega
    · exact ((hsu.mark j).mono (by show w.heap.size ≤ (leafW w1 k v).heap.size; omega)).keep K45
  | some l' =>
    rw [hfo] at hfat
    have q8 := Aside0.mk (fun W (hW : Kept w W) => told W (some l') (hfat.keep hW))
    unfold leafPtr toldV ptr at q8
    unfold leafPtr ptr
    have HFO := Aside0.mk hfo
    have KW : Aside0 (Kept w w4) := ⟨(Kept.of HB1.out).trans (Kept.trans (b := leafW w1 k v) (Kept.of HTF.out.2.2.2.2) (fun x hx => Kept.of H4.out.2.2 x hx) HTF.out.2.2.2.2.size) HB1.out.size⟩
    clear hfo hfat
    have KW2 : Aside0 (∀ o, Kept w (w4.alloc o)) := ⟨fun o => KW.out.trans (Kept.of ((Below.refl _ w4).alloc (Nat.le_refl _) _)) (by have h1 : (leafW w1 k v).heap.size ≤ w4.heap.size := H4.out.2.2.size; have h2 : (leafW w1 k v).heap.size = w1.heap.size + 3 := HTF.out.1; have h3 := HB1.out.size; omega)⟩
    go_wp2_with (go_at_call 41; refine (q8.out _ (KW2.out _)).mono ?_; rintro e w5 ⟨rfl, Q5⟩; have HQ5 := Aside0.mk Q5; clear Q5)
    go_ret3
    obtain ⟨hr, hsu, hb4⟩ := H4.out
    have hsw1 := HB1.out.size
    have hsl : (leafW w1 k v).heap.size = w1.heap.size + 3 := HTF.out.1
    have hsl2 : (leafW w1 k v).heap.size ≤ w4.heap.size := hb4.size
    have B4 : Below w.heap.size w w4 := (HB1.out.trans ⟨HTF.out.2.2.2.2.os, HTF.out.2.2.2.2.tape, HTF.out.2.2.2.2.output, HTF.out.2.2.2.2.size, fun x hx => HTF.out.2.2.2.2.block x (by omega)⟩).trans ⟨hb4.os, hb4.tape, hb4.output, hb4.size, fun x hx => hb4.block x (by show x < (leafW w1 k v).heap.size; omega)⟩
    have QO := HQ5.out
    have hh5 := QO.heap
    have K45 : Kept w4 w5 := (Kept.of ((Below.refl _ w4).alloc (Nat.le_refl _) _)).trans QO.kept (by simp only [World.size_alloc]; omega)
    refine ⟨w4.heap.size, w1.heap.size + 1 + 1, .pointer (some ⟨w1.heap.size + 1, 0, none⟩), ns, true, l'.val, rfl, ⟨?_, ?_⟩, by rw [HFO.out]; rfl, by omega, by omega, ?_, ⟨fun j => ?_, fun j => ?_⟩, (fun j e => by
      obtain ⟨c, e1, e2, _, _⟩ := hsu.mark j
      have h2 : (leafW w1 k v).heap.size ≤ c := e2
      rw [e1] at e
      unfold ptr at e
      injection e with e
      injection e with e
      injection e with e
      omega), (B4.alloc (by omega) _).trans (QO.below _)⟩
    · rw [hh5, insN_b]
      have e0 : size + incr true = size := Int.add_zero _
      rw [e0]
      exact heap_alloc_new w4 _
    · exact NdAt.keep K45 _ (hr w4 (Ag.refl _ _ _))
    · exact NewMark.keep (w := w4) ⟨w1.heap.size, rfl, hsw1, (Kept.of hb4).at HTF.out.2.1, (Kept.of hb4).at HTF.out.2.2.1⟩ K45
    · have h1 := hsu.new j
      have h2 : (leafW w1 k v).heap.size ≤ (ns j).1 := h1.1
      have h3 : w4.heap.size + 1 = w5.heap.size := by rw [hh5]; simp only [World.size_alloc]
      omega
    · exact ((hsu.mark j).mono (by show w.heap.size ≤ (leafW w1 k v).heap.size; omega)).keep K45
end Go.Proofs.YtjhgknagmiekeaaGreat.T
namespace Go.Proofs.YtjhgknagmiekeaaGreat.G
open Go.RowKit Go.Lib Go.Proofs Go.Conc
open Go.Proofs.YtjhgknagmiekeaaGreatW.PrintWords hiding Kept
open Go.Proofs.YtjhgknagmiekeaaGreat.T (Nd Ok Tr L ptr All valT wasV nodeT nodeT_of findT findT_node insN fine_ins len_ins find_eq find_ins vals_ins valT_ins treeInsertM incr node_keep node_new Lf L_ne L_len)
theorem node_mks : ∀ (N : Nat) (n : Nd) (r : List UInt8) (X : Nd), r.length ≤ N → Ok n → nodeT n r = some X → ∀ m ∈ mks X, m ∈ mks n := by
  intro N
  induction N with
  | zero =>
    intro n r X hr ho h m hm
    have e : r = [] := List.length_eq_zero_iff.1 (by omega)
    rw [e, T.nodeT_nil] at h
    cases h
    exact hm
  | succ N ih =>
    intro n r X hr ho h m hm
    rcases nodeT_of ho h with ⟨-, e⟩ | ⟨k, hk, t, e, ht⟩
    · rw [e] at hm; exact hm
    · have hpos := ho.parts.2.1 k hk
      have hl : r.length = k.label.size + t.length := by rw [e, List.length_append, L_len]
      exact mks_kid hk (ih k t X (by omega) (ho.parts.2.2.get k hk) ht m hm)
theorem node_mk {n : Nd} (ho : Ok n) {r : List UInt8} {X : Nd} (h : nodeT n r = some X) : X.mark ∈ mks n := node_mks r.length n r X (Nat.le_refl _) ho h _ (mks_mark X)
theorem leaf_mk {n : Nd} (ho : Ok n) {r : List UInt8} {l : Lf} (h : findT n r = some l) : l.mark ∈ mks n := by
  rw [findT_node r.length n r (Nat.le_refl _)] at h
  obtain ⟨X, hX, hl⟩ := Option.bind_eq_some_iff.1 h
  exact node_mks r.length n r X (Nat.le_refl _) ho hX _ (mks_leaf hl)
structure Lone (root : Nd) : Prop where
  node : ∀ r l q X, findT root r = some l → nodeT root q = some X → X.mark ≠ l.mark
  leaf : ∀ r r' l l', findT root r = some l → findT root r' = some l' → r ≠ r' → l.mark ≠ l'.mark
theorem mk_old {w : World} {m : Value} (h : MkAt w m) {c : Nat} (hc : w.heap.size ≤ c) : m ≠ ptr (c + 1) := fun e => by
  obtain ⟨c', d, e', hw⟩ := h
  rw [e'] at e
  unfold ptr at e
  injection e with e
  injection e with e
  injection e with e
  have := (Array.getElem?_eq_some_iff.1 hw.obj).1
  omega
end Go.Proofs.YtjhgknagmiekeaaGreat.G
set_option linter.unusedVariables false
set_option linter.unusedSimpArgs false
namespace Go.Proofs.YtjhgknagmiekeaaGreat.G
open Go.RowKit Go.Lib Go.Proofs Go.Conc
open Go.Proofs.YtjhgknagmiekeaaGreatW.PrintWords hiding Kept
open Go.Proofs.YtjhgknagmiekeaaGreat.T (Nd Ok Tr L ptr All valT wasV nodeT findT findT_node Strs emptyN Kept treeNew TrAt belowAt )
def Raw (B : Nat) (w : World) (root : Nd) : Prop := ∀ m ∈ mks root, ∃ c, m = ptr (c + 1) ∧ B ≤ c ∧ WatchAt w (c + 1) c false
theorem Raw.mks {B : Nat} {w : World} {root : Nd} (h : Raw B w root) : Mks w root := fun m hm => by
  obtain ⟨c, e, _, hw⟩ := h m hm
  exact ⟨c, false, e, hw⟩
theorem Raw.far {B : Nat} {w : World} {root : Nd} (h : Raw B w root) : ∀ m ∈ G.mks root, B ≤ chOf m := fun m hm => by
  obtain ⟨c, e, hc, hw⟩ := h m hm
  rw [e, chOf_ptr]
  exact hc
theorem Raw.below {B : Nat} {w w' : World} {root : Nd} (h : Raw B w root) (hb : Below w.heap.size w w') : Raw B w' root := fun m hm => by
  obtain ⟨c, e, hc, hw⟩ := h m hm
  exact ⟨c, e, hc, hw.move (hb.block _ (Array.getElem?_eq_some_iff.1 hw.obj).1) (hb.block _ (Array.getElem?_eq_some_iff.1 hw.ch).1)⟩
end Go.Proofs.YtjhgknagmiekeaaGreat.G
set_option linter.unusedVariables false
set_option linter.unusedSimpArgs false
namespace Go.Proofs.YtjhgknagmiekeaaGreat.G
open Go.RowKit Go.Lib Go.Proofs Go.Conc
open Go.Proofs.YtjhgknagmiekeaaGreatW.PrintWords hiding Kept
open Go.Proofs.YtjhgknagmiekeaaGreat.T (Nd Ok Tr L L_len ptr All valT nodeT findT markN watchN stepM wayF wayL wayF_list way_root onR seekN)
def On (root : Nd) (p : ByteArray) (c : Nat) : Prop := ∃ j, j ≤ p.size ∧ ∃ X, nodeT root ((L p).take j) = some X ∧ X.mark = ptr (c + 1)
theorem mark_on {root : Nd} (h : T.Good root) (p : ByteArray) : ∃ j, j ≤ p.size ∧ ∃ X, nodeT root ((L p).take j) = some X ∧ X.mark = markN root p := by
  have key : ∀ (l : List (Nd × Nat)) (s : Value), l ≠ [] → ∃ q ∈ l, l.foldl (fun s q => stepM s q.1 q.2) s = q.1.mark := by
    intro l
    induction l with
    | nil => intro s hl; exact absurd rfl hl
    | cons q l ih =>
      intro s _
      by_cases hl : l = []
      · subst hl; exact ⟨q, List.mem_cons_self, rfl⟩
      · obtain ⟨q', hq', e⟩ := ih (stepM s q.1 q.2) hl
        exact ⟨q', List.mem_cons_of_mem _ hq', e⟩
  have hne : wayL p (p.size + 2) (some root) 0 ≠ [] := by
    have h2 : p.size + 2 = p.size + 1 + 1 := rfl
    rw [h2, wayL]
    exact List.cons_ne_nil _ _
  obtain ⟨q, hq, e⟩ := key _ (.pointer none) hne
  rw [way_root h] at hq
  obtain ⟨j, hj, ej⟩ := List.mem_filterMap.1 hq
  have hj2 := List.mem_range.1 hj
  unfold onR at ej
  obtain ⟨X, hX, eX⟩ := Option.map_eq_some_iff.1 ej
  refine ⟨j, by omega, X, hX, ?_⟩
  unfold markN
  rw [wayF_list, e, ← eX]
theorem ch_ptr {w : World} {m : Value} (h : MkAt w m) {c : Nat} (e : chOf m = c) : m = ptr (c + 1) := by
  obtain ⟨c', d, e', -⟩ := h
  rw [e', chOf_ptr] at e
  rw [e', e]
theorem L_inj {a b : ByteArray} (h : L a = L b) : a = b := by
  cases a with | mk a => cases b with | mk b => cases a; cases b; exact congrArg _ (congrArg _ h)
theorem shut_on {root : Nd} (h : T.Good root) (w0 : World) {p : ByteArray} {c : Nat} (hOn : On root p c) {q : ByteArray} (hq : L p <+: L q) : (fireAll w0 root [q]).1 c = true := by
  obtain ⟨j, hj, X, hX, e⟩ := hOn
  obtain ⟨u, hu⟩ := hq
  have hjl : j ≤ (L p).length := by rw [L_len]; exact hj
  have hqs : q.size = p.size + u.length := by rw [← L_len, ← hu, List.length_append, L_len]
  refine (fire_key h w0 q c).2 (.inl ⟨j, by omega, X, ?_, by rw [e]; rfl⟩)
  rw [← hu, List.take_append_of_le_length hjl]
  exact hX
theorem keep_on {root root' : Nd} (h : T.Good root) (w0 : World) {p o : ByteArray} {c : Nat} (hOn : On root p c) (hk : ∀ r X, nodeT root r = some X → ¬ r <+: L o → ∃ X', nodeT root' r = some X' ∧ X'.mark = X.mark) : (fireAll w0 root [o]).1 c = true ∨ On root' p c := by
  obtain ⟨j, hj, X, hX, e⟩ := hOn
  by_cases hp : (L p).take j <+: L o
  · refine .inl ((fire_key h w0 o c).2 (.inl ⟨((L p).take j).length, ?_, X, ?_, by rw [e]; rfl⟩))
    · have := hp.length_le
      rw [L_len] at this
      exact this
    · rw [← List.prefix_iff_eq_take.1 hp]
      exact hX
  · obtain ⟨X', h1, h2⟩ := hk _ X hX hp
    exact .inr ⟨j, hj, X', h1, h2.trans e⟩
theorem shut_leaf {root : Nd} (h : T.Good root) (w0 : World) {k : ByteArray} {c : Nat} (hl : ∃ l, findT root (L k) = some l ∧ l.mark = ptr (c + 1)) : (fireAll w0 root [k]).1 c = true := by
  obtain ⟨l, h1, h2⟩ := hl
  exact (fire_key h w0 k c).2 (.inr ⟨l, h1, by rw [h2]; rfl⟩)
theorem spare_leaf {w : World} {root : Nd} (h : T.Good root) (hM : Mks w root) (hL : Lone root) (w0 : World) {k o : ByteArray} {c : Nat} (hl : ∃ l, findT root (L k) = some l ∧ l.mark = ptr (c + 1)) (hne : L o ≠ L k) : (fireAll w0 root [o]).1 c = false := by
  obtain ⟨l, h1, h2⟩ := hl
  cases e : (fireAll w0 root [o]).1 c with
  | false => rfl
  | true =>
    exfalso
    rcases (fire_key h w0 o c).1 e with ⟨j, _, X, hX, eX⟩ | ⟨l', hl', el⟩
    · exact hL.node _ l _ X h1 hX ((ch_ptr (hM _ (node_mk h.ok hX)) eX).trans h2.symm)
    · exact hL.leaf _ _ l l' h1 hl' (fun e => hne e.symm) (h2.trans (ch_ptr (hM _ (leaf_mk h.ok hl')) el).symm)
structure WakeI (w : World) (tb : Nat) (root : Nd) (p k : ByteArray) (there : Bool) (cu co : Nat) (du dd : Bool) : Prop where
  tr : Tr w tb root
  mrk : Mks w root
  lone : Lone root
  wu : WatchAt w (cu + 1) cu du
  wo : WatchAt w (co + 1) co dd
  onu : du = true ∨ On root p cu
  own : (there = true ∧ dd = false ∧ ∃ l, findT root (L k) = some l ∧ l.mark = ptr (co + 1)) ∨ (there = false ∧ (dd = true ∨ On root k co))
theorem shot_tree {w w1 : World} {S : Nat → Bool} {tb : Nat} {root : Nd} (hs : Shot w w1 S) (ht : Tr w tb root) (hM : Mks w root) : Tr w1 tb root ∧ Mks w1 root :=
  ⟨hs.farP.tr rfl rfl rfl rfl ht, fun m hm => (hM m hm).imp (fun c d hw => ⟨_, hs.watch c d hw⟩)⟩
theorem WakeI.round {w w1 w2 : World} {tb tb2 : Nat} {root root2 : Nd} {p k o : ByteArray} {there : Bool} {cu co : Nat} {du dd : Bool} (h : WakeI w tb root p k there cu co du dd) (hs : Shot w w1 (fireAll w root [o]).1) (ho : L o ≠ L k)
    (ht : Tr w2 tb2 root2) (hM : Mks w2 root2) (hL : Lone root2) (hkeep : ∀ r X, nodeT root r = some X → ¬ r <+: L o → ∃ X', nodeT root2 r = some X' ∧ X'.mark = X.mark) (hfind : ∀ r, r ≠ L o → findT root2 r = findT root r) (hb : Below w1.heap.size w1 w2) :
    ∃ du2 dd2, WakeI w2 tb2 root2 p k there cu co du2 dd2 := by
  have hg := h.tr.fine.toGood
  have mv : ∀ {c : Nat} {d : Bool}, WatchAt w (c + 1) c d → WatchAt w2 (c + 1) c (d || (fireAll w root [o]).1 c) := fun {c d} hw => by
    have h1 := hs.watch c d hw
    exact h1.move (hb.block _ (Array.getElem?_eq_some_iff.1 h1.obj).1) (hb.block _ (Array.getElem?_eq_some_iff.1 h1.ch).1)
  have on2 : ∀ {q : ByteArray} {c : Nat} {d : Bool}, (d = true ∨ On root q c) → ((d || (fireAll w root [o]).1 c) = true ∨ On root2 q c) := fun {q c d} hq => by
    rcases hq with e | e
    · exact .inl (by rw [e]; rfl)
    · rcases keep_on hg w e hkeep with e2 | e2
      · exact .inl (by rw [e2, Bool.or_true])
      · exact .inr e2
  refine ⟨_, _, ht, hM, hL, mv h.wu, mv h.wo, on2 h.onu, ?_⟩
  rcases h.own with ⟨h1, h2, l, h3, h4⟩ | ⟨h1, h2⟩
  · refine .inl ⟨h1, ?_, l, by rw [hfind _ (Ne.symm ho)]; exact h3, h4⟩
    rw [h2, spare_leaf hg h.mrk h.lone w ⟨l, h3, h4⟩ ho]
    rfl
  · exact .inr ⟨h1, on2 h2⟩
theorem WakeI.under {w w1 : World} {tb : Nat} {root : Nd} {p k q : ByteArray} {there : Bool} {cu co : Nat} {du dd : Bool} (h : WakeI w tb root p k there cu co du dd) (hs : Shot w w1 (fireAll w root [q]).1) (hq : L p <+: L q) :
    Tr w1 tb root ∧ Mks w1 root ∧ WatchAt w1 (cu + 1) cu true ∧ ∃ d2, WatchAt w1 (co + 1) co d2 ∧ (there = true → d2 = decide (k = q)) ∧ (∀ W, d2 = true ∨ (fireAll W root [k]).1 co = true) := by
  have hg := h.tr.fine.toGood
  obtain ⟨ht, hM⟩ := shot_tree hs h.tr h.mrk
  have e1 : (du || (fireAll w root [q]).1 cu) = true := by
    rcases h.onu with e | e
    · rw [e]; rfl
    · rw [shut_on hg w e hq, Bool.or_true]
  refine ⟨ht, hM, by rw [← e1]; exact hs.watch cu du h.wu, _, hs.watch co dd h.wo, fun e => ?_, fun W => ?_⟩
  · rcases h.own with ⟨h1, h2, h3⟩ | ⟨h1, h2⟩
    · rw [h2, Bool.false_or]
      by_cases hk : k = q
      · subst hk
        rw [shut_leaf hg w h3]
        simp
      · rw [spare_leaf hg h.mrk h.lone w h3 (fun e => hk (L_inj e).symm)]
        simp [hk]
    · rw [h1] at e; cases e
  · rcases h.own with ⟨h1, h2, h3⟩ | ⟨h1, h2 | h2⟩
    · exact .inr (shut_leaf hg W h3)
    · exact .inl (by rw [h2]; rfl)
    · exact .inr (shut_on hg W h2 (List.prefix_refl _))
theorem WakeI.below {w w' : World} {tb : Nat} {root : Nd} {p k : ByteArray} {there : Bool} {cu co : Nat} {du dd : Bool} (h : WakeI w tb root p k there cu co du dd) (hb : Below w.heap.size w w') : WakeI w' tb root p k there cu co du dd := by
  have mv : ∀ {c : Nat} {d : Bool}, WatchAt w (c + 1) c d → WatchAt w' (c + 1) c d := fun {c d} hw => hw.move (hb.block _ (Array.getElem?_eq_some_iff.1 hw.obj).1) (hb.block _ (Array.getElem?_eq_some_iff.1 hw.ch).1)
  exact ⟨h.tr.keep (T.Kept.of hb), fun m hm => (h.mrk m hm).imp (fun c d hw => ⟨d, mv hw⟩), h.lone, mv h.wu, mv h.wo, h.onu, h.own⟩
theorem watch_below {w w' : World} {c : Nat} {d : Bool} (hw : WatchAt w (c + 1) c d) (hb : Below w.heap.size w w') : WatchAt w' (c + 1) c d := hw.move (hb.block _ (Array.getElem?_eq_some_iff.1 hw.obj).1) (hb.block _ (Array.getElem?_eq_some_iff.1 hw.ch).1)
theorem mks_below {w w' : World} {root : Nd} (hM : Mks w root) (hb : Below w.heap.size w w') : Mks w' root := fun m hm => (hM m hm).imp (fun c d hw => ⟨d, watch_below hw hb⟩)
theorem beq_q (k q : ByteArray) : (k.toList == q.toList) = decide (k = q) := by
  rw [ByteArray.toList_eq, ByteArray.toList_eq]
  by_cases h : k = q
  · subst h; simp
  · have h2 : ¬ k.data = q.data := fun e => h (L_inj (congrArg Array.toList e))
    simp [h, h2]
theorem got_form {root : Nd} (hv : T.IntVals root) (r : List UInt8) : ∃ x : Int, T.gotV (valT root r) = .tuple #[.int .i64 x, .bool (findT root r).isSome] := by
  unfold T.valT
  cases e : findT root r with
  | none => exact ⟨0, rfl⟩
  | some l =>
    obtain ⟨v, ev⟩ := hv _ _ e
    exact ⟨v, by show Value.tuple #[l.val, .bool true] = _; rw [ev]; rfl⟩
end Go.Proofs.YtjhgknagmiekeaaGreat.G
