/- joined: G7 G8 G9 G11 G12 G10 G13 TP15 Q2 G14 G15 H1 H2 H3 -/
import Derived.Test.YtjhgknagmiekeaaGreatJA5
import Derived.Maps.Own
import Derived.Lib.SmallJoins
import Derived.Maps.OwnSet
import Derived.Shelf.SlIter.Nil
import Derived.Shelf.SortM.Plain
import Derived.Shelf.SortM.SortNone
import Derived.Shelf.SlLaysZ
import Derived.Shelf.SlLaysM
import Derived.Test.YtjhgknagmiekeaaGreatProg
import Derived.Test.YtjhgknagmiekeaaGreatJA4
import Derived.Sort.KeysCollected
import Derived.MapViews
set_option linter.unusedVariables false
set_option linter.unusedSimpArgs false
namespace Go.Proofs.YtjhgknagmiekeaaGreat.G
open Go.RowKit Go.Lib Go.Proofs Go.Conc
open Go.Proofs.YtjhgknagmiekeaaGreatW.PrintWords hiding Kept
open Go.Proofs.YtjhgknagmiekeaaGreat.T (Nd NdAt NdsAt LfAt Lf Row ptr ptrs Tr Fine leafPtr L Strs wayF)
def fireK (w0 : World) (root : Nd) (s : (Nat → Bool) × Int) (k : ByteArray) : (Nat → Bool) × Int := wayF (stepW w0 k) k (k.size + 2) (some root) 0 s
def fireAll (w0 : World) (root : Nd) (ks : List ByteArray) : (Nat → Bool) × Int := ks.foldl (fireK w0 root) (fun _ => false, 0)
theorem shot_alloc {w0 w : World} {S : Nat → Bool} (h : Shot w0 w S) (o : Obj) : Shot w0 (w.alloc o) S :=
  ⟨fun c d hw => (h.watch c d hw).move (Below.heap_alloc _ _ _ (Array.getElem?_eq_some_iff.1 (h.watch c d hw).obj).1) (Below.heap_alloc _ _ _ (Array.getElem?_eq_some_iff.1 (h.watch c d hw).ch).1), fun k hk hs => (Below.heap_alloc _ _ _ (Nat.lt_of_lt_of_le hk h.size)).trans (h.far k hk hs), by rw [World.size_alloc]; exact Nat.le_succ_of_le h.size, fun B h1 h2 => (h.below B h1 h2).alloc (Nat.le_trans h1 h.size) o⟩
theorem strs_far {p : TypeId → Bool} (h9 : p 9 = false) {w w' : World} (h : FarP p w w') {A : Option Addr} {ks : List ByteArray} (hs : ∀ i (hi : i < ks.length), ∃ ad cs fr, A = some ad ∧ w.heap[ad.block]? = some (.cells cs 9 fr)) (hk : Strs w A ks) : Strs w' A ks := fun i hi => by
  obtain ⟨ad, e, hc⟩ := hk i hi
  obtain ⟨ad', cs, fr, e', hb⟩ := hs i hi
  rw [e] at e'
  cases e'
  exact ⟨ad, e, (World.cell?_of_block (a := ad.add i) (by rw [add_block]; exact (h _ _ _ _ hb h9).trans hb.symm)).trans hc⟩
theorem run_store_fn {P : Program} {w : World} {a : Addr} {m : Mode} (f : Fn) (x y : Array Value) : (store a (.func f x y) m).run P w = stored P w a (.func f x y) m := run_store P w a _ m rfl
attribute [local go_sem] run_store_fn
set_option maxRecDepth 100000 in
set_option maxHeartbeats 4000000 in
theorem fireTree (w : World) (tb : Nat) (root : Nd) (ht : Tr w tb root) (hM : Mks w root) (A : Option Addr) (c : Nat) (ks : List ByteArray) (hA : Strs w A ks) (hAt : ∀ i (hi : i < ks.length), ∃ ad cs fr, A = some ad ∧ w.heap[ad.block]? = some (.cells cs 9 fr)) (hn : ks.length < 4000000000000) (hs : ∀ k ∈ ks, k.size < 4000000000000) :
    Calls Tryz.prog 67 #[ptr tb, .slice A ks.length c] w fun e w' => e = .returned (.int .i64 (fireAll w root ks).2) ∧ Shot w w' (fireAll w root ks).1 := by
  have HT := Aside0.mk (And.intro ht hM)
  have HS := Aside0.mk (And.intro hs (And.intro hA hAt))
  obtain ⟨n, en⟩ : ∃ n, ks.length = n := ⟨_, rfl⟩
  have HN := Aside0.mk en
  rw [en] at hn ⊢
  clear ht hM hA hAt hs en
  have hmf : ∀ (fn : Fn) (first cap : Array Value) (w : World), (Instr.makeFunc fn first cap).run Tryz.prog w = .ok (.func fn first cap) w := fun _ _ _ _ => rfl
  unfold ptr
  go_enter Tryz.func67, Tryz.ntmps67
  go_upto_region 3 with fail
  obtain ⟨B1, eB1⟩ : ∃ B1, w.heap.size = B1 := ⟨_, rfl⟩
  have HB1 := Aside0.mk eB1
  obtain ⟨W0, eW0⟩ : ∃ W0, (w.alloc (.cells #[.int .i64 0] 3)).alloc (.cells #[.func (.func 100) #[] #[ptr B1]] 187) = W0 := ⟨_, rfl⟩
  have H0 : Aside0 (Shot w W0 (fun _ => false) ∧ W0.heap[B1]? = some (.cells #[.int .i64 0] 3 (0, 0)) ∧ W0.heap[B1 + 1]? = some (.cells #[.func (.func 100) #[] #[ptr B1]] 187 (0, 0)) ∧ B1 + 1 < W0.heap.size) := by
    rw [← eW0]
    refine ⟨shot_alloc (shot_alloc (Shot.refl w) _) _, ?_, ?_, by rw [World.size_alloc, World.size_alloc]; omega⟩
    · rw [← eB1]; exact (Below.heap_alloc _ _ _ (by rw [World.size_alloc]; omega)).trans (heap_alloc_new w _)
    · have := heap_alloc_new (w.alloc (.cells #[.int .i64 0] 3)) (.cells #[.func (.func 100) #[] #[ptr B1]] 187)
      rwa [World.size_alloc, eB1] at this
  have HE0 := Aside0.mk eW0
  rw [eB1]
  have HK : Aside0 (Below w.heap.size w W0) := ⟨by rw [← eW0]; exact ((Below.refl _ w).alloc (Nat.le_refl _) _).alloc (by rw [World.size_alloc]; omega) _⟩
  have e9 : (w.alloc (.cells #[.int .i64 0] 3)).alloc (.cells #[.func (.func 100) #[] #[.pointer (some ⟨B1, 0, none⟩)]] 187) = W0 := eW0
  rw [e9]
  clear e9 eW0 eB1
  go_wp2_with fail
  go_loopg [12] (n + 1) (fun kq v12 W => ∃ (j : Nat) (s : (Nat → Bool) × Int), v12 = .int .i64 (j : Int) ∧ Aside0 (j + kq = n + 1 ∧ j ≤ n) ∧ Aside0 (Shot w W s.1 ∧ W.heap[B1]? = some (.cells #[.int .i64 s.2] 3 (0, 0)) ∧ W.heap[B1 + 1]? = some (.cells #[.func (.func 100) #[] #[ptr B1]] 187 (0, 0))) ∧ Aside0 (s = (ks.take j).foldl (fireK w root) (fun _ => false, 0)))
  case atStart => exact ⟨0, (fun _ => false, 0), rfl, ⟨by omega, Nat.zero_le _⟩, ⟨H0.out.1, H0.out.2.1, H0.out.2.2.1⟩, ⟨rfl⟩⟩
  case round =>
    obtain ⟨j, s, rfl, HI, HV, HF⟩ := hrel
    by_cases hj : j < n
    · have hj' : j < ks.length := by rw [HN.out]; exact hj
      obtain ⟨ad, ea, hk0⟩ := strs_far rfl HV.out.1.farP HS.out.2.2 HS.out.2.1 j hj'
      obtain ⟨k, ek⟩ : ∃ k, ks[j] = k := ⟨_, rfl⟩
      rw [ek] at hk0
      have hks : k.size < 4000000000000 := HS.out.1 k (by rw [← ek]; exact List.getElem_mem _)
      subst ea
      obtain ⟨G, eG⟩ : ∃ G, wr.heap.size = G := ⟨_, rfl⟩
      obtain ⟨W1, eW1⟩ : ∃ W1, wr.alloc (.cells #[.string k] 9) = W1 := ⟨_, rfl⟩
      have hG : B1 + 1 < G := by rw [← eG]; exact (Array.getElem?_eq_some_iff.1 HV.out.2.2).1
      have hst := shot_alloc HV.out.1 (.cells #[.string k] 9)
      have hkey : W1.heap[G]? = some (.cells #[.string k] 9 (0, 0)) := by rw [← eW1, ← eG]; exact heap_alloc_new wr _
      rw [eW1] at hst
      have hinv : InvF w k B1 (B1 + 1) G s W1 := ⟨hst, by rw [← eW1]; exact (Below.heap_alloc _ _ _ (by omega)).trans HV.out.2.1, by rw [← eW1]; exact (Below.heap_alloc _ _ _ (by omega)).trans HV.out.2.2, hkey⟩
      have hrt : W1.cell? ⟨tb, 0, none⟩ = some (.pointer (some ⟨root.b, 0, none⟩)) := by rw [blk_cell (hst.farP _ _ _ _ HT.out.1.at_.blk rfl)]; rfl
      have q1 := Aside0.mk (T.way107 (stepW w k) (InvF w k B1 (B1 + 1) G) (FarP (fun t => t == 153) w) (Mks w) (B1 + 1) G w W1 tb root _ k s hks hst.farP HT.out.1.at_ HT.out.1.fine.ok HT.out.1.fine.sm HT.out.1.fine.top hinv HT.out.2 (fun x hx => hx.kid) hrt (fun w1 hR x hx => FarP.nd rfl rfl rfl hR x hx)
        (fun s' x a w1 hR hI hx hp ha => (call107 w k B1 (B1 + 1) G (Nat.le_of_eq HB1.out) (by omega) hG s' x a w1 hI hx hp ha hks).mono (fun e w' ⟨h1, h2⟩ => ⟨h1, h2, h2.shot.farP⟩)))
      have ck : W1.cell? ⟨G, 0, none⟩ = some (.string k) := by rw [blk_cell hkey]; rfl
      have HTK : Aside0 (ks.take (j + 1) = ks.take j ++ [k]) := ⟨by rw [List.take_add_one, List.getElem?_eq_getElem hj', ek]; rfl⟩
      have HEW := Aside0.mk (And.intro eW1 eG)
      clear hst hkey hinv hrt eW1 ek hj' hks eG hG
      unfold ptr at q1
      go_upto_region 6 with fail
      rw [HEW.out.1, HEW.out.2]
      clear hk0
      go_wp2_with (go_at_call 68; refine q1.out.mono ?_)
      rintro e w2 ⟨rfl, h2, -⟩
      have H2 := Aside0.mk h2
      clear h2 q1 ck
      go_wp2_with fail
      go_roundg (n - j)
      case measure => have := HI.out; omega
      case rel =>
        refine ⟨j + 1, fireK w root s k, by simp, ⟨by have := HI.out; omega⟩, ⟨H2.out.shot, H2.out.cnt, H2.out.fn⟩, ⟨?_⟩⟩
        rw [HTK.out, List.foldl_append, ← HF.out]
        rfl
    · have hin : j = n := by have := HI.out; omega
      subst hin
      have c1 : wr.cell? ⟨B1, 0, none⟩ = some (.int .i64 s.2) := by rw [blk_cell HV.out.2.1]; rfl
      go_wp2_with fail
      go_ret
      have e2 : fireAll w root ks = s := by
        unfold fireAll
        rw [HF.out, ← HN.out, List.take_length]
      rw [e2]
      exact ⟨rfl, HV.out.1⟩
end Go.Proofs.YtjhgknagmiekeaaGreat.G
set_option linter.unusedVariables false
set_option linter.unusedSimpArgs false
namespace Go.Proofs.YtjhgknagmiekeaaGreat.G
open Go.RowKit Go.Lib Go.Proofs Go.Conc
open Go.Proofs.YtjhgknagmiekeaaGreatW.PrintWords hiding Kept
open Go.Proofs.YtjhgknagmiekeaaGreat.T (Nd NdAt ptr Tr L)
section
variable {P : Program} {f : FuncId} {fn : Func}
theorem run_load_ptr (hf : P.funcs[f]? = some fn) (hname : (fn.name == "runtime.NumGoroutine") = false) (hb : fn.body.isNone = true) (hn : Extern.findNext fn = none)
    (he : Extern.find fn = some (Extern.Atomic.loadT .ptr)) {a : Addr} {p : Option Addr} {w : World} (hc : w.cell? a = some (.pointer p)) :
    (callFunc f #[.pointer (some a)]).run P w = .ok (.value (.pointer p)) w := by
  rw [run_callFunc_extern hf hname hb hn he]
  change (Sem.run P (do Extern.Atomic.read .ptr (← asAddr (.pointer (some a)))) w).andThen _ = _
  simp [Extern.Atomic.read, asAddr, hc, Result.andThen]
theorem run_store_ptr (hf : P.funcs[f]? = some fn) (hname : (fn.name == "runtime.NumGoroutine") = false) (hb : fn.body.isNone = true) (hn : Extern.findNext fn = none)
    (he : Extern.find fn = some Extern.Atomic.storeT) {a : Addr} {p : Option Addr} {u : Value} {w : World} (hc : w.cell? a = some u) (hz : w.frozen? a = false) :
    (callFunc f #[.pointer (some a), .pointer p]).run P w = .ok (.value (.tuple #[])) (w.setCell a (.pointer p)) := by
  rw [run_callFunc_extern hf hname hb hn he]
  change (Sem.run P (do
    store (← asAddr (.pointer (some a))) (.pointer p) .atomic
    pure Extern.Atomic.none_) w).andThen _ = _
  simp [asAddr, hc, hz, run_store P w a (.pointer p) .atomic rfl, Result.andThen, Extern.Atomic.none_]
end
theorem lies : liesAt Tryz.prog Tryz.prog.depth 102 (2 / Tryz.prog.cellsOf 102) 0 102 1 = true := by kernel_rfl
theorem size194 : (Tryz.prog.info? 102).map (fun i => decide (i.size = 0)) = some false := by kernel_rfl
theorem conv_from (v : Nat) (x y : Value) (w : World) (hb : w.heap[v]? = some (.cells #[x, y] 102 (0, 0))) : (convert 89 85 (.pointer (some ⟨v, 0, none⟩))).run Tryz.prog w = .ok (.pointer (some ⟨v, 0, none⟩)) w := by
  have hsh : w.shape? v = some (102, 2) := by unfold World.shape?; rw [hb]; rfl
  obtain ⟨i, hi, hz0⟩ := Option.map_eq_some_iff.1 size194
  have hz : i.size ≠ 0 := by simpa using hz0
  have hl := lies
  simp [convert, Conv.unsafePointer, Conv.seenAt, viewAt, cellsIn, sizeOf, typeInfo, run_underlying Tryz.underlying89, run_underlying Tryz.underlying85, hi, hz, hsh, hb, variablesAt, hl, Result.andThen]
theorem conv_to (v : Nat) (x y : Value) (w : World) (hb : w.heap[v]? = some (.cells #[x, y] 102 (0, 0))) : (convert 85 89 (.pointer (some ⟨v, 0, none⟩))).run Tryz.prog w = .ok (.pointer (some ⟨v, 0, none⟩)) w :=
  run_convert_to_unsafe (P := Tryz.prog) (src := 85) (dst := 89) Tryz.underlying85 Tryz.underlying89 (by kernel_rfl) (v := x) (by rw [blk_cell hb]; rfl)
set_option maxRecDepth 100000 in
set_option maxHeartbeats 1600000 in
theorem loadPtr (b v : Nat) (x y : Value) (w : World) (hc : w.cell? ⟨b, 0, none⟩ = some (ptr v)) (hb : w.heap[v]? = some (.cells #[x, y] 102 (0, 0))) :
    Calls Tryz.prog 36 #[ptr b] w fun e w' => e = .returned (ptr v) ∧ w' = w := by
  have hl := run_load_ptr (P := Tryz.prog) Tryz.func71 (by kernel_rfl) (by kernel_rfl) (by kernel_rfl) (by kernel_rfl) hc
  have hv := conv_from v x y w hb
  clear hb
  unfold ptr at hc hl ⊢
  go_enter Tryz.func36, Tryz.ntmps36
  go_wp2
  go_ret
  exact ⟨rfl, rfl⟩
set_option maxRecDepth 100000 in
set_option maxHeartbeats 1600000 in
theorem storePtr (b v : Nat) (x y u : Value) (w : World) (hc : w.cell? ⟨b, 0, none⟩ = some u) (hz : w.frozen? ⟨b, 0, none⟩ = false) (hb : w.heap[v]? = some (.cells #[x, y] 102 (0, 0))) :
    Calls Tryz.prog 34 #[ptr b, ptr v] w fun e w' => e = .returned (.tuple #[]) ∧ w' = w.setCell ⟨b, 0, none⟩ (ptr v) := by
  have hst := run_store_ptr (P := Tryz.prog) Tryz.func70 (by kernel_rfl) (by kernel_rfl) (by kernel_rfl) (by kernel_rfl) (p := some ⟨v, 0, none⟩) hc hz
  have hv := conv_to v x y w hb
  clear hb
  unfold ptr
  go_enter Tryz.func34, Tryz.ntmps34
  go_wp2
  go_end0
  exact ⟨rfl, rfl⟩
structure BaseAt (w : World) (b v tb : Nat) (n : Int) (held : Bool) : Prop where
  base : w.heap[b]? = some (.cells #[ptr v, .int .i32 (if held then 1 else 0), .int .u32 0] 99 (0, 0))
  ver : w.heap[v]? = some (.cells #[ptr tb, .int .u64 n] 102 (0, 0))
set_option maxRecDepth 100000 in
set_option maxHeartbeats 1600000 in
theorem baseTree (w : World) (b v tb : Nat) (n : Int) (held : Bool) (h : BaseAt w b v tb n held) : Calls Tryz.prog 12 #[ptr b] w fun e w' => e = .returned (ptr tb) ∧ w' = w := by
  have c0 : w.cell? ⟨b, 0, none⟩ = some (ptr v) := by rw [blk_cell h.base]; rfl
  have q := Aside0.mk (loadPtr b v _ _ w c0 h.ver)
  have v0 : w.cell? ⟨v, 0, none⟩ = some (ptr tb) := by rw [blk_cell h.ver]; rfl
  clear h c0
  unfold ptr at q v0 ⊢
  go_enter Tryz.func12, Tryz.ntmps12
  go_wp2_with (first | (go_at_call 36; refine q.out.mono ?_; rintro e w' ⟨rfl, hw⟩; subst hw))
  go_ret
  exact ⟨rfl, rfl⟩
set_option maxRecDepth 100000 in
set_option maxHeartbeats 1600000 in
theorem baseVersion (w : World) (b v tb : Nat) (n : Int) (held : Bool) (h : BaseAt w b v tb n held) : Calls Tryz.prog 11 #[ptr b] w fun e w' => e = .returned (.int .u64 n) ∧ w' = w := by
  have c0 : w.cell? ⟨b, 0, none⟩ = some (ptr v) := by rw [blk_cell h.base]; rfl
  have q := Aside0.mk (loadPtr b v _ _ w c0 h.ver)
  have v0 : w.cell? ⟨v, 1, none⟩ = some (.int .u64 n) := by rw [blk_cell h.ver]; rfl
  clear h c0
  unfold ptr at q ⊢
  go_enter Tryz.func11, Tryz.ntmps11
  go_wp2_with (first | (go_at_call 36; refine q.out.mono ?_; rintro e w' ⟨rfl, hw⟩; subst hw))
  go_ret
  exact ⟨rfl, rfl⟩
end Go.Proofs.YtjhgknagmiekeaaGreat.G
set_option linter.unusedVariables false
set_option linter.unusedSimpArgs false
namespace Go.Proofs.YtjhgknagmiekeaaGreat.G
open Go.RowKit Go.Lib Go.Proofs Go.Conc
open Go.Proofs.YtjhgknagmiekeaaGreatW.PrintWords hiding Kept
open Go.Proofs.YtjhgknagmiekeaaGreatW.PrintLast
open Go.Proofs.YtjhgknagmiekeaaGreat.T (Nd NdAt ptr Tr L emptyN TrAt NewMark)
theorem newMark_at {B : Nat} {w : World} {m : Value} (h : NewMark B w m) : ∃ c, m = ptr (c + 1) ∧ B ≤ c ∧ WatchAt w (c + 1) c false := by
  obtain ⟨c, h1, h2, h3, h4⟩ := h
  exact ⟨c, h1, h2, h4, h3⟩
def nw2_T : Bool × List (List Nat × List Nat) := (true, [([], []), ([0], [0]), ([1], [1]), ([], []), ([3], [3]), ([4], [4]), ([2, 5, 3], [2, 5])])
def nw2_B : List Nat := [0, 1, 3, 0, 8, 24, 63]
theorem nw2_bits : waitsOk nw2_T.2 nw2_B = true := by kernel_rfl
theorem nw2_tab : rtab .any (opsOf Tryz.f9 2) = nw2_T := by kernel_rfl
attribute [local go_sem] Oper.semAt_some
set_option maxRecDepth 100000 in
set_option maxHeartbeats 4000000 in
theorem newB (w : World) : Calls Tryz.prog 9 #[] w fun e w' => ∃ b v tb nb c, e = .returned (ptr b) ∧ BaseAt w' b v tb 0 false ∧ TrAt w' tb (emptyN nb (ptr (c + 1))) 0 ∧ WatchAt w' (c + 1) c false ∧ w.heap.size ≤ b ∧ w.heap.size ≤ v ∧ w.heap.size ≤ c ∧ Below w.heap.size w w' := by
  have q1 := Aside0.mk (fun W => T.treeNew W)
  obtain ⟨B, eB⟩ : ∃ B, w.heap.size = B := ⟨_, rfl⟩
  have HB := Aside0.mk eB
  obtain ⟨W0, eW0⟩ : ∃ W0, w.alloc (.cells #[.pointer none, .int .i32 0, .int .u32 0] 99) = W0 := ⟨_, rfl⟩
  have H0 : Aside0 (W0.heap[B]? = some (.cells #[.pointer none, .int .i32 0, .int .u32 0] 99 (0, 0)) ∧ Below w.heap.size w W0 ∧ B < W0.heap.size) := ⟨by rw [← eW0, ← eB]; exact heap_alloc_new w _, by rw [← eW0]; exact (Below.refl _ w).alloc (Nat.le_refl _) _, by rw [← eW0, World.size_alloc]; omega⟩
  have HE := Aside0.mk eW0
  unfold ptr at q1
  clear eW0
  go_enter Tryz.func9, Tryz.ntmps9
  go_upto_region 2 with fail
  rw [HE.out]
  clear eB HE
  refine start_ (n := 7) (S := (fun _ : World => True)) (ds := [6]) #[false, false, false, false, false, false, false] (by kernel_rfl) rfl rfl trivial (fun hHeld => ?_); refine with_tabW nw2_tab nw2_bits (fun HT_ HW_ => ?_)
  refine pure_ (i := 0) (N := some 4) (v := ?_) (a' := ?_) #[true, false, false, false, false, false, false] rfl rfl (any_of HT_.out (by kernel_rfl)) (fun _ _ _ h => h) (Or.inl ⟨by rfl, ?_⟩) ?_ ?_
  rotate_left
  · intro w'
    go_simp
    with_reducible rfl
  rotate_left
  · simp only [Act.put, List.setIfInBounds_toArray, List.set_cons_zero, List.set_cons_succ, i64_w, i32_w]
    rfl
  refine pure_ (i := 1) (N := some 5) (v := ?_) (a' := ?_) #[true, true, false, false, false, false, false] rfl rfl (any_of HT_.out (by kernel_rfl)) (fun _ _ _ h => h) (Or.inl ⟨by rfl, ?_⟩) ?_ ?_
  rotate_left
  · intro w'
    go_simp
    with_reducible rfl
  rotate_left
  · simp only [Act.put, List.setIfInBounds_toArray, List.set_cons_zero, List.set_cons_succ, i64_w, i32_w]
    rfl
  refine pure_ (i := 2) (N := some 6) (v := ?_) (a' := ?_) #[true, true, true, false, false, false, false] rfl rfl (any_of HT_.out (by kernel_rfl)) (fun _ _ _ h => h) (Or.inl ⟨by rfl, ?_⟩) ?_ ?_
  rotate_left
  · intro w'
    go_simp
    with_reducible rfl
  rotate_left
  · simp only [Act.put, List.setIfInBounds_toArray, List.set_cons_zero, List.set_cons_succ, i64_w, i32_w]
    rfl
  refine one_ (i := 3) (N := some 7) #[true, true, true, true, false, false, false] rfl rfl (one_of HT_.out (by kernel_rfl)) (by decide) (fun K hK => ?_)
  refine goes_ Tryz.func35 (by kernel_rfl) rfl #[] (by rfl) rfl rfl (by (try simp only [List.map_toArray, List.map_cons, List.map_nil]); first | done | rfl) ?_
  refine (q1.out _).mono ?_
  rintro e w1 ⟨tb, nb, m, rfl, htr, hm, -, -, hb1⟩
  obtain ⟨c, rfl, hc, hwa⟩ := newMark_at hm
  have H1 := Aside0.mk (And.intro htr (And.intro hc (And.intro hwa hb1)))
  clear htr hm hc hwa hb1
  refine ⟨_, rfl, ?_⟩
  clear hHeld
  refine hK.out _ _ trivial (fun hHeld => ?_)
  clear hK K
  refine norm_ (a' := ?_) ?_ ?_
  rotate_left
  · show Act.put _ (some 7) _ = _
    simp only [Act.put, List.setIfInBounds_toArray, List.set_cons_zero, List.set_cons_succ, i64_w, i32_w]
    rfl
  refine pure_ (i := 4) (N := some 8) (v := ?_) (a' := ?_) #[true, true, true, true, true, false, false] rfl rfl (any_of HT_.out (by kernel_rfl)) (fun _ _ _ h => h) (Or.inl ⟨by rfl, ?_⟩) ?_ ?_
  rotate_left
  · intro w'
    go_simp
    with_reducible rfl
  rotate_left
  · simp only [Act.put, List.setIfInBounds_toArray, List.set_cons_zero, List.set_cons_succ, i64_w, i32_w]
    rfl
  refine one_ (i := 5) (N := some 9) #[true, true, true, true, true, true, false] rfl rfl (one_of HT_.out (by kernel_rfl)) (by decide) (fun K hK => ?_)
  refine value_ (w1 := w1.alloc (.cells #[.pointer (some ⟨tb, 0, none⟩), .int .u64 0] 102)) (v := .pointer (some ⟨w1.heap.size, 0, none⟩)) (by rfl) rfl (by go_simp) ?_
  clear hHeld
  refine hK.out _ _ trivial (fun hHeld => ?_)
  clear hK K
  refine norm_ (a' := ?_) ?_ ?_
  rotate_left
  · show Act.put _ (some 9) _ = _
    simp only [Act.put, List.setIfInBounds_toArray, List.set_cons_zero, List.set_cons_succ, i64_w, i32_w]
    rfl
  obtain ⟨V, eV⟩ : ∃ V, w1.heap.size = V := ⟨_, rfl⟩
  obtain ⟨W2, eW2⟩ : ∃ W2, w1.alloc (.cells #[.pointer (some ⟨tb, 0, none⟩), .int .u64 0] 102) = W2 := ⟨_, rfl⟩
  have hb2 : Below w1.heap.size w1 W2 := by rw [← eW2]; exact (Below.refl _ w1).alloc (Nat.le_refl _) _
  have hv2 : W2.heap[V]? = some (.cells #[.pointer (some ⟨tb, 0, none⟩), .int .u64 0] 102 (0, 0)) := by rw [← eW2, ← eV]; exact heap_alloc_new w1 _
  have hob := (H1.out.2.2.2.block B H0.out.2.2).trans H0.out.1
  have hob2 := (hb2.block _ (Array.getElem?_eq_some_iff.1 hob).1).trans hob
  have hbV : B < V := by rw [← eV]; exact (Array.getElem?_eq_some_iff.1 hob).1
  have q2 := Aside0.mk (storePtr B V _ _ (.pointer none) W2 (by rw [blk_cell hob2]; rfl) (blk_frozen hob2 0) hv2)
  have H2 := Aside0.mk (And.intro hb2 (And.intro hv2 (And.intro hob2 hbV)))
  have HEV := Aside0.mk eV
  rw [eW2, eV]
  clear hb2 hv2 hob hob2 hbV eW2 eV
  unfold ptr at q2
  refine last_ (i := 6) (N := some 10) #[true, true, true, true, true, true, true] rfl rfl (one_of HT_.out (by kernel_rfl)) (by decide) (fun K hK => ?_)
  refine goes_ Tryz.func34 (by kernel_rfl) rfl #[.pointer (some ⟨B, 0, none⟩), .pointer (some ⟨V, 0, none⟩)] (by rfl) rfl rfl (by (try simp only [List.map_toArray, List.map_cons, List.map_nil]); first | done | rfl) ?_
  refine q2.out.mono ?_
  rintro e w3 ⟨rfl, hw3⟩
  have HW3 := Aside0.mk hw3
  clear hw3 hHeld
  refine ⟨_, rfl, ?_⟩
  refine hK.out _ _ ?_
  clear hK K
  refine done_ (done_of HT_.out (by kernel_rfl)) ?_
  clear q1 q2 HT_ HW_
  go_wp2_with fail
  go_ret
  have hw3 := HW3.out
  subst hw3
  have hfar : ∀ k, k ≠ B → (W2.setCell ⟨B, 0, none⟩ (ptr V)).heap[k]? = W2.heap[k]? := fun k hk => Below.heap_setCell _ _ _ k hk
  have hfp : FarP (fun t => t == 99) W2 (W2.setCell ⟨B, 0, none⟩ (ptr V)) := fun k cs t fr hk ht => (hfar k (fun e => by
    subst e
    rw [H2.out.2.2.1] at hk
    injection hk with e1
    injection e1 with _ e2 _
    rw [← e2] at ht
    cases ht)).trans hk
  have hbB := HB.out
  have hch : ∀ k o, W2.heap[k]? = some o → k ≠ B → (W2.setCell ⟨B, 0, none⟩ (ptr V)).heap[k]? = some o := fun k o h1 h2 => (hfar k h2).trans h1
  have hc1 := H1.out.2.2.1
  have hcW0 : W0.heap.size ≤ c := H1.out.2.1
  have hBW := H0.out.2.2
  refine ⟨B, V, tb, nb, c, rfl, ⟨set_atG H2.out.2.2.1 0 _, hch V _ H2.out.2.1 (by have := H2.out.2.2.2; omega)⟩, ⟨hfp _ _ _ _ (T.Kept.at (T.Kept.of H2.out.1) H1.out.1.blk) rfl, FarP.nd rfl rfl rfl hfp _ (T.NdAt.keep (T.Kept.of H2.out.1) _ H1.out.1.root)⟩, ⟨hch _ _ (T.Kept.at (T.Kept.of H2.out.1) hc1.obj) (by omega), hch _ _ (T.Kept.at (T.Kept.of H2.out.1) hc1.ch) (by omega)⟩, by omega, by have := H2.out.2.2.2; omega, by omega, ?_⟩
  exact below_put (T.belowAt (T.belowAt (below_drew H0.out.2.1) H1.out.2.2.2) H2.out.1) B 0 (by omega) _
end Go.Proofs.YtjhgknagmiekeaaGreat.G
set_option linter.unusedVariables false
set_option linter.unusedSimpArgs false
namespace Go.Proofs.YtjhgknagmiekeaaGreat.G
open Go.RowKit Go.Lib Go.Proofs Go.Conc
open Go.Proofs.YtjhgknagmiekeaaGreatW.PrintWords hiding Kept
open Go.Proofs.YtjhgknagmiekeaaGreat.T
theorem mks_mk {b : Nat} {label : ByteArray} {leaf : Option Lf} {kids : List Nd} {mark m : Value} : m ∈ mks (.mk b label leaf kids mark) ↔ m = mark ∨ (∃ l, leaf = some l ∧ m = l.mark) ∨ ∃ k ∈ kids, m ∈ mks k := by
  rw [mks_eq]
  show m ∈ mark :: ((leaf.map (fun l => l.mark)).toList ++ mkss kids) ↔ _
  rw [List.mem_cons, List.mem_append, mkss_mem]
  cases leaf <;> simp
theorem mks_of (n : Nd) {m : Value} : m ∈ mks n ↔ m = n.mark ∨ (∃ l, n.leaf = some l ∧ m = l.mark) ∨ ∃ k ∈ n.kids, m ∈ mks k := by
  cases n; exact mks_mk
theorem mks_tip {rest : ByteArray} {l : Lf} {s : Nat × Value} {m : Value} (h : m ∈ mks (tipN rest l s)) : m = s.2 ∨ m = l.mark := by
  rcases mks_mk.1 h with h | ⟨l', h1, h2⟩ | ⟨k, h1, h2⟩
  · exact .inl h
  · cases h1; exact .inr h2
  · cases h1
theorem mks_low {k : Nd} {p b : Nat} {m : Value} (h : m ∈ mks (lowN k p b)) : m ∈ mks k := by
  rw [mks_of]
  exact mks_mk.1 h
theorem mks_split {k : Nd} {p : Nat} {rest : ByteArray} {l : Lf} {ns : Sup} {m : Value} (h : m ∈ mks (splitN k p rest l ns)) : m ∈ mks k ∨ m = l.mark ∨ ∃ j, m = (ns j).2 := by
  unfold splitN at h
  split at h
  · rcases mks_mk.1 h with h | ⟨l', h1, h2⟩ | ⟨x, h1, h2⟩
    · exact .inr (.inr ⟨_, h⟩)
    · cases h1; exact .inr (.inl h2)
    · rw [List.mem_singleton] at h1; subst h1; exact .inl (mks_low h2)
  · rcases mks_mk.1 h with h | ⟨l', h1, h2⟩ | ⟨x, h1, h2⟩
    · exact .inr (.inr ⟨_, h⟩)
    · cases h1
    · rcases mem_insAt h1 with e | e
      · subst e
        rcases mks_tip h2 with h3 | h3
        · exact .inr (.inr ⟨_, h3⟩)
        · exact .inr (.inl h3)
      · rw [List.mem_singleton] at e; subst e; exact .inl (mks_low h2)
theorem mks_ins : ∀ (N : Nat) (rest : ByteArray), rest.size ≤ N → ∀ (n : Nd) (l : Lf) (ns : Sup) (m : Value), m ∈ mks (insN n rest l ns) → m ∈ mks n ∨ m = l.mark ∨ ∃ j, m = (ns j).2 := by
  intro N
  induction N with
  | zero =>
    intro rest hN n l ns m h
    rw [insN, dif_pos (by omega)] at h
    rcases mks_mk.1 h with h | ⟨l', h1, h2⟩ | ⟨k, h1, h2⟩
    · exact .inr (.inr ⟨_, h⟩)
    · cases h1; exact .inr (.inl h2)
    · exact .inl (mks_kid h1 h2)
  | succ N ih =>
    intro rest hN n l ns m h
    rw [insN] at h
    split at h
    · rcases mks_mk.1 h with h | ⟨l', h1, h2⟩ | ⟨k, h1, h2⟩
      · exact .inr (.inr ⟨_, h⟩)
      · cases h1; exact .inr (.inl h2)
      · exact .inl (mks_kid h1 h2)
    · split at h
      · rcases mks_mk.1 h with h | ⟨l', h1, h2⟩ | ⟨k, h1, h2⟩
        · exact .inr (.inr ⟨_, h⟩)
        · exact .inl (by rw [h2]; exact mks_leaf h1)
        · rcases mem_insAt h1 with e | e
          · subst e
            rcases mks_tip h2 with h3 | h3
            · exact .inr (.inr ⟨_, h3⟩)
            · exact .inr (.inl h3)
          · exact .inl (mks_kid e h2)
      · rename_i k e
        obtain ⟨hh, hlt, ek⟩ := kidN_some e
        have hkm : k ∈ n.kids := by rw [← ek]; exact List.getElem_mem _
        split at h
        · rcases mks_mk.1 h with h | ⟨l', h1, h2⟩ | ⟨x, h1, h2⟩
          · exact .inr (.inr ⟨_, h⟩)
          · exact .inl (by rw [h2]; exact mks_leaf h1)
          · rcases List.mem_or_eq_of_mem_set h1 with e | e
            · exact .inl (mks_kid e h2)
            · subst e
              rcases ih _ (by simp only [ByteArray.size_extract]; omega) k l _ m h2 with h3 | h3 | ⟨j, h3⟩
              · exact .inl (mks_kid hkm h3)
              · exact .inr (.inl h3)
              · exact .inr (.inr ⟨j + 1, h3⟩)
        · rcases mks_mk.1 h with h | ⟨l', h1, h2⟩ | ⟨x, h1, h2⟩
          · exact .inr (.inr ⟨_, h⟩)
          · exact .inl (by rw [h2]; exact mks_leaf h1)
          · rcases List.mem_or_eq_of_mem_set h1 with e | e
            · exact .inl (mks_kid e h2)
            · subst e
              rcases mks_split h2 with h3 | h3 | h3
              · exact .inl (mks_kid hkm h3)
              · exact .inr (.inl h3)
              · exact .inr (.inr h3)
theorem mks_shaped {n s : Nd} {b : Nat} (h : shapedN n b = some s) {m : Value} (hm : m ∈ mks s) : m ∈ mks n := by
  rcases shaped_cases n b with ⟨e, _⟩ | ⟨_, _, e⟩ | ⟨k, hl, hk, e⟩
  · rw [e] at h; cases h; exact hm
  · rw [e] at h; cases h
  · rw [e] at h; cases h
    have hkm : k ∈ n.kids := by rw [hk]; simp
    refine mks_kid hkm ?_
    rw [mks_of]
    exact mks_mk.1 hm
theorem mks_del : ∀ (N : Nat) (rest : ByteArray), rest.size ≤ N → ∀ (n x : Nd) (ns : Sup) (l : Lf), delN n rest ns = some (x, l) → ∀ m ∈ mks x, m ∈ mks n ∨ ∃ j, m = (ns j).2 := by
  intro N
  induction N with
  | zero =>
    intro rest hN n x ns l h m hm
    rcases delN_some h with ⟨h0, h1, h2⟩ | ⟨h0, _⟩
    · rw [h2] at hm
      rcases mks_mk.1 hm with h | ⟨l', h1, h2⟩ | ⟨k, h1, h2⟩
      · exact .inr ⟨_, h⟩
      · cases h1
      · exact .inl (mks_kid h1 h2)
    · omega
  | succ N ih =>
    intro rest hN n x ns l h m hm
    rcases delN_some h with ⟨h0, h1, h2⟩ | ⟨h0, k, low, hd, hp, hdel, h2⟩
    · rw [h2] at hm
      rcases mks_mk.1 hm with h | ⟨l', h1, h2⟩ | ⟨k, h1, h2⟩
      · exact .inr ⟨_, h⟩
      · cases h1
      · exact .inl (mks_kid h1 h2)
    · rw [h2] at hm
      have hkm := (downN_some hd).1
      rcases mks_mk.1 hm with h | ⟨l', h1, h3⟩ | ⟨y, h1, h3⟩
      · exact .inr ⟨_, h⟩
      · exact .inl (by rw [h3]; exact mks_leaf h1)
      · rcases mem_putKid h1 with e | e
        · exact .inl (mks_kid e h3)
        · rcases ih (rest.extract k.label.size rest.size) (by simp only [ByteArray.size_extract]; omega) k low _ l hdel m (mks_shaped e h3) with h4 | ⟨j, h4⟩
          · exact .inl (mks_kid hkm h4)
          · exact .inr ⟨j + 2, h4⟩
theorem insM (w : World) (tb : Nat) (root : Nd) (h : Tr w tb root) (k : ByteArray) (v : Int) (hk : k.size < 4000000000000) (hs : (All root).length < 3999999999999) :
    Calls Tryz.prog 27 #[ptr tb, .string k, .int .i64 v] w fun e w' => ∃ tb' root', e = .returned (wasV tb' (valT root (L k))) ∧ Tr w' tb' root' ∧ (∀ r, valT root' r = if r = L k then some (.int .i64 v) else valT root r) ∧ (All root').length ≤ (All root).length + 1 ∧ (∀ m ∈ mks root', m ∈ mks root ∨ ∃ c, m = ptr (c + 1) ∧ w.heap.size ≤ c ∧ WatchAt w' (c + 1) c false) ∧ Below w.heap.size w w' := by
  refine (treeInsert w tb root _ v k h.at_ h.fine.ok h.fine.sm hk (by omega) (by omega)).mono ?_
  rintro e w' ⟨tb', lb, m, ns, had, old, rfl, h1, h2, h3, h4, h5, h6, hB⟩
  have hg := fine_ins h.fine k hk ⟨lb, k, .int .i64 v, m⟩ rfl ns
  have hl := len_ins h.fine.toGood k ⟨lb, k, .int .i64 v, m⟩ ns hg.toGood
  rw [find_eq h.fine.toGood] at h2
  refine ⟨tb', insN root k ⟨lb, k, .int .i64 v, m⟩ ns, ?_, ⟨?_, hg, vals_ins h.fine.toGood h.vals k _ v rfl ns⟩, valT_ins h.fine.toGood k _ ns, ?_, fun x hx => ?_, hB⟩
  · unfold valT
    cases e : findT root (L k) with
    | none => rw [e] at h2; cases h2; rfl
    | some l => rw [e] at h2; cases h2; rfl
  · have e : (All root).length + incr had = ((All (insN root k ⟨lb, k, .int .i64 v, m⟩ ns)).length : Int) := by
      rw [hl]
      cases e : findT root (L k) with
      | none => rw [e] at h2; cases h2; rfl
      | some l => rw [e] at h2; cases h2; rfl
    rw [← e]
    exact h1
  · have : (if findT root (L k) = none then (1 : Int) else 0) ≤ 1 := by split <;> omega
    omega
  · rcases mks_ins k.size k (Nat.le_refl _) root _ ns x hx with h7 | h7 | ⟨j, h7⟩
    · exact .inl h7
    · obtain ⟨c, e1, e2, e3, e4⟩ := h5
      exact .inr ⟨c, h7.trans e1, e2, e4, e3⟩
    · obtain ⟨c, e1, e2, e3, e4⟩ := h6.mark j
      exact .inr ⟨c, h7.trans e1, e2, e4, e3⟩
end Go.Proofs.YtjhgknagmiekeaaGreat.G
set_option linter.unusedVariables false
set_option linter.unusedSimpArgs false
namespace Go.Proofs.YtjhgknagmiekeaaGreat.G
open Go.RowKit Go.Lib Go.Proofs Go.Conc Go.Maps
open Go.Proofs.YtjhgknagmiekeaaGreatW.PrintWords hiding Kept
open Go.Proofs.YtjhgknagmiekeaaGreat.T (Nd NdAt ptr Tr L All valT wasV Lf)
structure Only (p : Nat → Prop) (w w' : World) : Prop where
  far : ∀ k, k < w.heap.size → ¬ p k → w'.heap[k]? = w.heap[k]?
  size : w.heap.size ≤ w'.heap.size
  below : ∀ B, B ≤ w.heap.size → (∀ k, k < w.heap.size → p k → B ≤ k) → Below B w w'
theorem Only.refl (p : Nat → Prop) (w : World) : Only p w w := ⟨fun _ _ _ => rfl, Nat.le_refl _, fun _ _ _ => Below.refl _ _⟩
theorem Only.of {p : Nat → Prop} {w w' : World} (h : Below w.heap.size w w') : Only p w w' := ⟨fun k hk _ => h.block k hk, h.size, fun B hB _ => h.mono hB⟩
theorem Only.trans {p q : Nat → Prop} {a b c : World} (h : Only p a b) (k : Only q b c) : Only (fun x => p x ∨ q x) a c := by
  refine ⟨fun x hx hn => (k.far x (Nat.lt_of_lt_of_le hx h.size) (fun e => hn (.inr e))).trans (h.far x hx (fun e => hn (.inl e))), Nat.le_trans h.size k.size, fun B hB hs => (h.below B hB (fun x hx hp => hs x hx (.inl hp))).trans (k.below B (Nat.le_trans hB h.size) (fun x hx hq => ?_))⟩
  by_cases hlt : x < a.heap.size
  · exact hs x hlt (.inr hq)
  · omega
theorem Only.imp {p q : Nat → Prop} {w w' : World} (h : Only p w w') (hp : ∀ k, k < w.heap.size → p k → q k) : Only q w w' := ⟨fun k hk hn => h.far k hk (fun e => hn (hp k hk e)), h.size, fun B hB hs => h.below B hB (fun k hk e => hs k hk (hp k hk e))⟩
theorem Only.put {p : Nat → Prop} {w w' : World} (h : Only p w w') (b j : Nat) (hb : p b ∨ w.heap.size ≤ b) (v : Value) : Only p w (w'.setCell ⟨b, j, none⟩ v) := by
  refine ⟨fun k hk hn => (Below.heap_setCell _ _ _ k (fun e => ?_)).trans (h.far k hk hn), by rw [size_setCellG]; exact h.size, fun B hB hs => below_put (h.below B hB hs) b j ?_ v⟩
  · have e2 : k = b := e
    rcases hb with hb | hb
    · exact hn (by rw [e2]; exact hb)
    · omega
  · rcases hb with hb | hb
    · by_cases hlt : b < w.heap.size
      · exact hs b hlt hb
      · omega
    · omega
theorem Only.at {p : Nat → Prop} {w w' : World} (h : Only p w w') {b : Nat} {o : Obj} (hb : w.heap[b]? = some o) (hp : ¬ p b) : w'.heap[b]? = some o := (h.far b (Array.getElem?_eq_some_iff.1 hb).1 hp).trans hb
theorem only_grown {w w' : World} {b : Nat} (h : w.grownBy w' (some b)) : Only (fun k => k = b) w w' := ⟨fun k hk hn => h.block k hk (fun e => hn (by injection e)), h.size, fun B hB hs => by
  by_cases hb : b < w.heap.size
  · exact T.below_grown h hB (fun k e => by injection e with e; rw [← e]; exact hs b hb rfl)
  · exact ⟨h.os, h.tape, h.output, h.size, fun k hk => h.block k (by omega) (fun e => by injection e with e; omega)⟩⟩
def TxnAt (w : World) (x b tx mb : Nat) (over : Bool) : Prop := w.heap[x]? = some (.cells #[ptr b, ptr tx, .map (some mb), .bool over] 117 (0, 0))
def Tch (w : World) (mb n : Nat) (D : DataW Unit) : Prop := w.ownsMap Tryz.prog 9 (plainElem Tryz.prog 3) mb n D
theorem BaseAt.move {w w' : World} {b v tb : Nat} {n : Int} {held : Bool} (h : BaseAt w b v tb n held) (h1 : w'.heap[b]? = w.heap[b]?) (h2 : w'.heap[v]? = w.heap[v]?) : BaseAt w' b v tb n held := ⟨h1.trans h.base, h2.trans h.ver⟩
theorem BaseAt.ne {w : World} {b v tb : Nat} {n : Int} {held : Bool} (h : BaseAt w b v tb n held) : b ≠ v := fun e => by
  have h1 := h.base
  rw [e, h.ver] at h1
  cases h1
set_option maxRecDepth 100000 in
set_option maxHeartbeats 1600000 in
theorem beginHeld (w : World) (b v tb : Nat) (n : Int) (h : BaseAt w b v tb n true) : Calls Tryz.prog 18 #[ptr b] w fun e w' => e = .returned (.tuple #[.pointer none, .int .i64 50]) ∧ w' = w := by
  have q := Aside0.mk (try_held ⟨b, 1, none⟩ w (by rw [blk_cell h.base]; rfl))
  clear h
  have hnot : ∀ (x : Bool) (w : World), (Op.unary .not (.bool x)).run Tryz.prog w = .ok (.bool (!x)) w := fun _ _ => rfl
  unfold ptr
  go_enter Tryz.func18, Tryz.ntmps18
  go_wp2_with (first | (go_at_call 43; refine q.out.mono ?_; rintro e w' ⟨rfl, hw⟩; subst hw))
  go_ret2
  exact ⟨rfl, rfl⟩
set_option maxRecDepth 100000 in
set_option maxHeartbeats 1600000 in
theorem beginFree (w : World) (b v tb : Nat) (n : Int) (h : BaseAt w b v tb n false) : Calls Tryz.prog 18 #[ptr b] w fun e w' => ∃ x mb, e = .returned (.tuple #[ptr x, .int .i64 0]) ∧ BaseAt w' b v tb n true ∧ TxnAt w' x b tb mb false ∧ Tch w' mb 0 (.map []) ∧ w.heap.size ≤ x ∧ w.heap.size ≤ mb ∧ mb < x ∧ Only (fun k => k = b) w w' := by
  have hb : b < w.heap.size := (Array.getElem?_eq_some_iff.1 h.base).1
  have q1 := Aside0.mk (try_free ⟨b, 1, none⟩ w (by rw [blk_cell h.base]; rfl) (blk_frozen h.base 1))
  obtain ⟨W1, eW1⟩ : ∃ W1, w.setCell ⟨b, 1, none⟩ (.int .i32 1) = W1 := ⟨_, rfl⟩
  have h1 : BaseAt W1 b v tb n true := ⟨by rw [← eW1]; exact set_atG h.base 1 _, by rw [← eW1]; exact (Below.heap_setCell _ _ _ v (Ne.symm h.ne)).trans h.ver⟩
  have q2 := Aside0.mk (baseTree W1 b v tb n true h1)
  have hsz : W1.heap.size = w.heap.size := by rw [← eW1, size_setCellG]
  have H1 := Aside0.mk (And.intro h1 (And.intro (show Only (fun k => k = b) w W1 from by rw [← eW1]; exact (Only.refl (fun k => k = b) w).put b 1 (.inl rfl) _) hsz))
  rw [eW1] at q1
  have hmm := @run_makeMap Tryz.prog
  clear h h1 hb eW1
  have hnot : ∀ (x : Bool) (w : World), (Op.unary .not (.bool x)).run Tryz.prog w = .ok (.bool (!x)) w := fun _ _ => rfl
  unfold ptr at q2 ⊢
  go_enter Tryz.func18, Tryz.ntmps18
  go_wp2_with (first | (go_at_call 43; refine q1.out.mono ?_; rintro e w' ⟨rfl, hw⟩; subst hw) | (go_at_call 12; refine q2.out.mono ?_; rintro e w' ⟨rfl, hw⟩; subst hw))
  go_ret2
  have hs1 : w'.heap.size = w.heap.size := H1.out.2.2
  have hb1 : Below w'.heap.size w' (w'.alloc (.map #[] 0)) := (Below.refl _ w').alloc (Nat.le_refl _) _
  have hb2 : Below w'.heap.size w' ((w'.alloc (.map #[] 0)).alloc (.cells #[ptr b, ptr tb, .map (some w.heap.size), .bool false] 117)) := hb1.alloc (by rw [World.size_alloc]; omega) _
  refine ⟨w.heap.size + 1, w.heap.size, rfl, H1.out.1.move (hb2.block _ (Array.getElem?_eq_some_iff.1 H1.out.1.base).1) (hb2.block _ (Array.getElem?_eq_some_iff.1 H1.out.1.ver).1), ?_, ?_, by omega, by omega, by omega, (H1.out.2.1.trans (Only.of (p := fun _ => False) hb2)).imp (fun k _ h => h.elim id (fun e => e.elim))⟩
  · have := heap_alloc_new (w'.alloc (.map #[] 0)) (.cells #[ptr b, ptr tb, .map (some w.heap.size), .bool false] 117)
    rw [World.size_alloc, hs1] at this
    exact this
  · have := World.ownsMap_made (H := Unit) w' Tryz.prog 9 (plainElem Tryz.prog 3)
    rw [hs1] at this
    exact this.alloc _
theorem was_form {root : Nd} (hv : T.IntVals root) (tb : Nat) (r : List UInt8) : ∃ (x : Int) (h : Bool), wasV tb (valT root r) = .tuple #[ptr tb, .int .i64 x, .bool h] := by
  unfold valT
  cases e : T.findT root r with
  | none => exact ⟨0, false, rfl⟩
  | some l =>
    obtain ⟨v, ev⟩ := hv _ _ e
    exact ⟨v, true, by show Value.tuple #[ptr tb, l.val, .bool true] = _; rw [ev]⟩
theorem keyOf_str (k : ByteArray) (hk : k.size < 4000000000000) : keyOf Tryz.prog 9 (.string k) = some (.string k.data.toList) := by
  have h : k.size ≤ maxLen := by unfold maxLen; omega
  simp [keyOf, mapKey, Tryz.underlying9, h]
set_option maxRecDepth 100000 in
set_option maxHeartbeats 4000000 in
theorem txnSet (w : World) (x b tx mb nn : Nat) (D : DataW Unit) (root : Nd) (hx : TxnAt w x b tx mb false) (hm : Tch w mb nn D) (hnn : nn < 1000000000000) (ht : Tr w tx root) (k : ByteArray) (v : Int) (hk : k.size < 4000000000000) (hs : (All root).length < 3999999999999) :
    Calls Tryz.prog 26 #[ptr x, .string k, .int .i64 v] w fun e w' => ∃ (old : Int) (had : Bool) (tx' : Nat) (root' : Nd) (c : Int), e = .returned (.tuple #[.int .i64 old, .bool had, .int .i64 0]) ∧ TxnAt w' x b tx' mb false ∧ Tch w' mb (nn + 1) (D.put (.string k.data.toList) (.lit (.int .i64 c))) ∧ Tr w' tx' root' ∧ (∀ r, valT root' r = if r = L k then some (.int .i64 v) else valT root r) ∧ (All root').length ≤ (All root).length + 1 ∧
      (∀ m ∈ mks root', m ∈ mks root ∨ ∃ c, m = ptr (c + 1) ∧ w.heap.size ≤ c ∧ WatchAt w' (c + 1) c false) ∧ Only (fun j => j = mb ∨ j = x) w w' := by
  obtain ⟨cv, hrun, hat, hwf⟩ := World.ownsMap.lookup_int hm (string_keyed Tryz.underlying9) Tryz.underlying115 Tryz.underlying3 (by kernel_rfl) (keyOf_str k hk)
  have x1 : w.cell? ⟨x, 1, none⟩ = some (ptr tx) := by rw [blk_cell hx]; rfl
  have x2 : w.cell? ⟨x, 2, none⟩ = some (.map (some mb)) := by rw [blk_cell hx]; rfl
  have x3 : w.cell? ⟨x, 3, none⟩ = some (.bool false) := by rw [blk_cell hx]; rfl
  have HX := Aside0.mk (And.intro hx (And.intro hm ht))
  have HK := Aside0.mk (keyOf_str k hk)
  clear hx hm ht hat
  unfold ptr at x1 ⊢
  go_enter Tryz.func26, Tryz.ntmps26
  go_upto_region 4 with fail
  go_wp2_with (at_mapUpdate; refine wpList_mapUpdate_own _ rfl _ _ _ 115 rfl 9 3 (string_keyed Tryz.underlying9) Tryz.underlying115 (plainElem Tryz.prog 3) mb nn D rfl HX.out.2.1 (by unfold maxLen; omega) _ _ (.string k.data.toList) rfl rfl HK.out (.lit (.int .i64 (wrap64 (cv + 1)))) [] (plainElem_int Tryz.underlying3 (RowKit.wrap64_wf _)) ?_)
  intro w1 hm1 hg1
  have ho1 := only_grown hg1
  have hlt : x < w.heap.size := (Array.getElem?_eq_some_iff.1 HX.out.1).1
  have hmx : mb ≠ x := fun e => by
    obtain ⟨es, cl, h1, -⟩ := HX.out.2.1
    rw [e, HX.out.1] at h1
    cases h1
  have hx1 := ho1.at HX.out.1 (fun e => hmx e.symm)
  have y1 : w1.cell? ⟨x, 1, none⟩ = some (.pointer (some ⟨tx, 0, none⟩)) := by rw [blk_cell hx1]; rfl
  have hfar1 : FarP (fun _ => false) w w1 := fun j cs t fr hj _ => ho1.at hj (fun e => by
    obtain ⟨es, cl, h1, -⟩ := HX.out.2.1
    rw [e, h1] at hj
    cases hj)
  have ht1 : Tr w1 tx root := hfar1.tr rfl rfl rfl rfl HX.out.2.2
  have q1 := Aside0.mk (insM w1 tx root ht1 k v hk hs)
  have HW := Aside0.mk (fun tb => was_form ht1.vals tb (L k))
  obtain ⟨o, eo⟩ : ∃ o, valT root (L k) = o := ⟨_, rfl⟩
  rw [eo] at q1 HW
  have H1 := Aside0.mk (And.intro hm1 (And.intro ho1 (And.intro hx1 (And.intro hmx ht1))))
  have HEO := Aside0.mk eo
  clear hm1 hg1 ho1 hx1 hfar1 ht1 x1 x2 x3 hrun eo
  unfold ptr at q1
  go_wp2_with fail
  go_at_call 27
  refine q1.out.mono ?_
  rintro e w2 ⟨tb', root', rfl, ht2, hv2, hl2, hm2, hb2⟩
  obtain ⟨ox, oh, eab⟩ := HW.out tb'
  rw [eab]
  have hx2 := (hb2.block _ (Array.getElem?_eq_some_iff.1 H1.out.2.2.1).1).trans H1.out.2.2.1
  have z1 : w2.cell? ⟨x, 1, none⟩ = some (.pointer (some ⟨tx, 0, none⟩)) := by rw [blk_cell hx2]; rfl
  have f1 : w2.frozen? ⟨x, 1, none⟩ = false := blk_frozen hx2 1
  have H2 := Aside0.mk (And.intro ht2 (And.intro hv2 (And.intro hl2 (And.intro hm2 (And.intro hb2 hx2)))))
  clear ht2 hv2 hl2 hm2 hb2 hx2 q1 HW eab y1
  unfold ptr
  go_wp2_with fail
  go_ret3
  have hfar : ∀ j, j ≠ x → (w2.setCell ⟨x, 1, none⟩ (ptr tb')).heap[j]? = w2.heap[j]? := fun j hj => Below.heap_setCell _ _ _ j hj
  have hfp : FarP (fun t => t == 117) w2 (w2.setCell ⟨x, 1, none⟩ (ptr tb')) := fun j cs t fr hj ht => (hfar j (fun e => by
    subst e
    rw [H2.out.2.2.2.2.2] at hj
    injection hj with e1
    injection e1 with _ e2 _
    rw [← e2] at ht
    cases ht)).trans hj
  have hb := H2.out.2.2.2.2.1
  have hmk : Tch w2 mb (nn + 1) (D.put (.string k.data.toList) (.lit (.int .i64 (wrap64 (cv + 1))))) := by
    have h9 := H1.out.1
    exact h9.kept (row := none) ⟨hb.os, hb.tape, hb.output, hb.size, fun i hi _ => hb.block i hi⟩ (by simp)
  refine ⟨ox, oh, tb', root', wrap64 (cv + 1), rfl, set_atG H2.out.2.2.2.2.2 1 _, hmk.setCell (a := ⟨x, 1, none⟩) H1.out.2.2.2.1 _, hfp.tr rfl rfl rfl rfl H2.out.1, H2.out.2.1, H2.out.2.2.1, fun m hm => ?_, ?_⟩
  · rcases H2.out.2.2.2.1 m hm with h | ⟨c, h1, h2, h3⟩
    · exact .inl h
    · refine .inr ⟨c, h1, Nat.le_trans H1.out.2.1.size h2, h3.move (hfar _ ?_) (hfar _ ?_)⟩
      · have := H1.out.2.1.size; omega
      · have := H1.out.2.1.size; omega
  · exact ((H1.out.2.1.trans (Only.of (p := fun j => j = x) hb)).put x 1 (.inl (.inr rfl)) _)
end Go.Proofs.YtjhgknagmiekeaaGreat.G
namespace Go.Proofs
open Go.Shelf
open Go.RowKit Go.Maps Go.Sort
def Tryz.keys169_ren : Go.Shelf.Ren := ⟨fun | 7 => 86 | 10 => 118 | n => n, fun | 23 => 115 | 26 => 9 | 3 => 3 | 28 => 177 | 0 => 0 | 27 => 176 | 33 => 105 | 4 => 4 | n => n, fun | n => n⟩
theorem Tryz.keys169 : Go.Proofs.SlLaysZ.n7 Tryz.prog Tryz.keys169_ren := {
  mixed := by kernel_rfl
  f7 := ⟨Tryz.f86.name, by decide, Tryz.func86.trans (congrArg some (by kernel_rfl))⟩
  f10 := ⟨Tryz.f118.name, by decide, Tryz.func118.trans (congrArg some (by kernel_rfl))⟩
  t0 := Tryz.underlying0
  a0 := Tryz.isAgg0
  z0 := Tryz.sizeOf0
  v0 := Tryz.zeroValue0
  t4 := Tryz.underlying4
  a4 := Tryz.isAgg4
  z4 := Tryz.sizeOf4
  v4 := Tryz.zeroValue4
  t23 := Tryz.underlying115
  a23 := Tryz.isAgg115
  z23 := Tryz.sizeOf115
  v23 := Tryz.zeroValue115
  t26 := Tryz.underlying9
  a26 := Tryz.isAgg9
  z26 := Tryz.sizeOf9
  v26 := Tryz.zeroValue9
  t27 := Tryz.underlying176
  a27 := Tryz.isAgg176
  z27 := Tryz.sizeOf176
  v27 := Tryz.zeroValue176
  t28 := Tryz.underlying177
  a28 := Tryz.isAgg177
  z28 := Tryz.sizeOf177
  v28 := Tryz.zeroValue177
  t33 := Tryz.underlying105
  a33 := Tryz.isAgg105
  z33 := Tryz.sizeOf105
  v33 := Tryz.zeroValue105 }
def Tryz.sorted168_ren : Go.Shelf.Ren := ⟨fun | 6 => 85 | 8 => 116 | 9 => 117 | 11 => 142 | 13 => 97 | 12 => 143 | 23 => 132 | 24 => 133 | 14 => 156 | 15 => 157 | 16 => 158 | 17 => 159 | 18 => 160 | 19 => 161 | 20 => 162 | 21 => 163 | 22 => 164 | 25 => 170 | 26 => 146 | 27 => 147 | 28 => 171 | 29 => 172 | 30 => 173 | 31 => 177 | n => n, fun | 26 => 9 | 28 => 177 | 24 => 22 | 0 => 0 | 3 => 3 | 37 => 186 | 48 => 93 | 50 => 27 | 4 => 4 | 40 => 208 | 39 => 207 | 45 => 42 | 5 => 5 | 9 => 9 | 51 => 221 | 55 => 224 | 57 => 237 | 58 => 238 | 33 => 105 | n => n, fun | n => n⟩
theorem Tryz.sorted168 : Go.Proofs.SlLaysZ.n6 Tryz.prog Tryz.sorted168_ren := {
  mixed := by kernel_rfl
  f6 := ⟨Tryz.f85.name, by decide, Tryz.func85.trans (congrArg some (by kernel_rfl))⟩
  f8 := ⟨Tryz.f116.name, by decide, Tryz.func116.trans (congrArg some (by kernel_rfl))⟩
  f11 := ⟨Tryz.f142.name, by decide, Tryz.func142.trans (congrArg some (by kernel_rfl))⟩
  t0 := Tryz.underlying0
  a0 := Tryz.isAgg0
  z0 := Tryz.sizeOf0
  v0 := Tryz.zeroValue0
  t24 := Tryz.underlying22
  a24 := Tryz.isAgg22
  z24 := Tryz.sizeOf22
  v24 := Tryz.zeroValue22
  t26 := Tryz.underlying9
  a26 := Tryz.isAgg9
  z26 := Tryz.sizeOf9
  v26 := Tryz.zeroValue9
  t28 := Tryz.underlying177
  a28 := Tryz.isAgg177
  z28 := Tryz.sizeOf177
  v28 := Tryz.zeroValue177
  i26 := by kernel_rfl }
def Tryz.sort185_ren : Go.Shelf.Ren := ⟨fun | 6 => 117 | 8 => 97 | 9 => 143 | 19 => 132 | 20 => 133 | 21 => 156 | 22 => 157 | 23 => 158 | 24 => 159 | 25 => 160 | 26 => 161 | 27 => 162 | 28 => 163 | 29 => 164 | 36 => 170 | 31 => 146 | 32 => 147 | 37 => 171 | 38 => 172 | 39 => 173 | 41 => 177 | n => n, fun | 27 => 22 | 29 => 9 | 3 => 3 | 32 => 186 | 26 => 22 | 0 => 0 | 44 => 93 | 46 => 27 | 4 => 4 | 36 => 208 | 35 => 207 | 41 => 42 | 5 => 5 | 9 => 9 | 53 => 221 | 57 => 224 | 63 => 237 | 64 => 238 | n => n, fun | n => n⟩
theorem Tryz.sort185 : Go.Proofs.SlLaysM.n6 Tryz.prog Tryz.sort185_ren := {
  mixed := by kernel_rfl
  f6 := ⟨Tryz.f117.name, by decide, Tryz.func117.trans (congrArg some (by kernel_rfl))⟩
  f8 := Tryz.func97.trans (congrArg some (by kernel_rfl))
  f9 := ⟨Tryz.f143.name, by decide, Tryz.func143.trans (congrArg some (by kernel_rfl))⟩
  f19 := Tryz.func132.trans (congrArg some (by kernel_rfl))
  f20 := Tryz.func133.trans (congrArg some (by kernel_rfl))
  f21 := ⟨Tryz.f156.name, by decide, Tryz.func156.trans (congrArg some (by kernel_rfl))⟩
  f22 := ⟨Tryz.f157.name, by decide, Tryz.func157.trans (congrArg some (by kernel_rfl))⟩
  f23 := ⟨Tryz.f158.name, by decide, Tryz.func158.trans (congrArg some (by kernel_rfl))⟩
  f24 := ⟨Tryz.f159.name, by decide, Tryz.func159.trans (congrArg some (by kernel_rfl))⟩
  f25 := ⟨Tryz.f160.name, by decide, Tryz.func160.trans (congrArg some (by kernel_rfl))⟩
  f26 := ⟨Tryz.f161.name, by decide, Tryz.func161.trans (congrArg some (by kernel_rfl))⟩
  f27 := ⟨Tryz.f162.name, by decide, Tryz.func162.trans (congrArg some (by kernel_rfl))⟩
  f28 := ⟨Tryz.f163.name, by decide, Tryz.func163.trans (congrArg some (by kernel_rfl))⟩
  f29 := ⟨Tryz.f164.name, by decide, Tryz.func164.trans (congrArg some (by kernel_rfl))⟩
  f31 := Tryz.func146.trans (congrArg some (by kernel_rfl))
  f32 := Tryz.func147.trans (congrArg some (by kernel_rfl))
  f36 := ⟨Tryz.f170.name, by decide, Tryz.func170.trans (congrArg some (by kernel_rfl))⟩
  f37 := ⟨Tryz.f171.name, by decide, Tryz.func171.trans (congrArg some (by kernel_rfl))⟩
  f38 := ⟨Tryz.f172.name, by decide, Tryz.func172.trans (congrArg some (by kernel_rfl))⟩
  f39 := ⟨Tryz.f173.name, by decide, Tryz.func173.trans (congrArg some (by kernel_rfl))⟩
  f41 := ⟨Tryz.f177.name, by decide, Tryz.func177.trans (congrArg some (by kernel_rfl))⟩
  t0 := Tryz.underlying0
  a0 := Tryz.isAgg0
  z0 := Tryz.sizeOf0
  v0 := Tryz.zeroValue0
  t3 := Tryz.underlying3
  a3 := Tryz.isAgg3
  z3 := Tryz.sizeOf3
  v3 := Tryz.zeroValue3
  t4 := Tryz.underlying4
  a4 := Tryz.isAgg4
  z4 := Tryz.sizeOf4
  v4 := Tryz.zeroValue4
  t5 := Tryz.underlying5
  a5 := Tryz.isAgg5
  z5 := Tryz.sizeOf5
  v5 := Tryz.zeroValue5
  t9 := Tryz.underlying9
  a9 := Tryz.isAgg9
  z9 := Tryz.sizeOf9
  v9 := Tryz.zeroValue9
  t26 := Tryz.underlying22
  a26 := Tryz.isAgg22
  z26 := Tryz.sizeOf22
  v26 := Tryz.zeroValue22
  t27 := Tryz.underlying22
  a27 := Tryz.isAgg22
  z27 := Tryz.sizeOf22
  v27 := Tryz.zeroValue22
  t29 := Tryz.underlying9
  a29 := Tryz.isAgg9
  z29 := Tryz.sizeOf9
  v29 := Tryz.zeroValue9
  t32 := Tryz.underlying186
  a32 := Tryz.isAgg186
  z32 := Tryz.sizeOf186
  v32 := Tryz.zeroValue186
  t35 := Tryz.underlying207
  a35 := Tryz.isAgg207
  z35 := Tryz.sizeOf207
  v35 := Tryz.zeroValue207
  t36 := Tryz.underlying208
  a36 := Tryz.isAgg208
  z36 := Tryz.sizeOf208
  v36 := Tryz.zeroValue208
  t41 := Tryz.underlying42
  a41 := Tryz.isAgg42
  z41 := Tryz.sizeOf42
  v41 := Tryz.zeroValue42
  t44 := Tryz.underlying93
  a44 := Tryz.isAgg93
  z44 := Tryz.sizeOf93
  v44 := Tryz.zeroValue93
  t46 := Tryz.underlying27
  a46 := Tryz.isAgg27
  z46 := Tryz.sizeOf27
  v46 := Tryz.zeroValue27
  t53 := Tryz.underlying221
  a53 := Tryz.isAgg221
  z53 := Tryz.sizeOf221
  v53 := Tryz.zeroValue221
  t57 := Tryz.underlying224
  a57 := Tryz.isAgg224
  z57 := Tryz.sizeOf224
  v57 := Tryz.zeroValue224
  t63 := Tryz.underlying237
  a63 := Tryz.isAgg237
  z63 := Tryz.sizeOf237
  v63 := Tryz.zeroValue237
  t64 := Tryz.underlying238
  a64 := Tryz.isAgg238
  z64 := Tryz.sizeOf238
  v64 := Tryz.zeroValue238 }
theorem Tryz.sorts168 (m : Nat) : AnyZ.SortsIn Tryz.prog Tryz.sorted168_ren Fence.wide m :=
  ⟨fun blk off cap ss W hH hblk hsz => callsIn_wide.2 (AnyM.slices_Sort_string Tryz.sort185 blk off cap ss W hH hblk hsz),
   fun p cap W => callsIn_wide.2 (AnyM.slices_Sort_string_none Tryz.sort185 p cap W)⟩
theorem Tryz.maps_Keys_169 (mb : Option Nat) (W : World) : CallsIn Fence.wide 5 Tryz.prog 86 #[.map mb] W fun e w' => e = .returned (.func (.func 118) #[] #[.pointer (some ⟨W.heap.size, 0, none⟩)]) ∧ w' = W.alloc (.cells #[.map mb] 115) :=
  AnyZ.keys_in Tryz.keys169 Fence.wide 5 trivial rfl mb W
set_option maxHeartbeats 1000000 in
theorem Tryz.slices_Sorted_keys_168_169 {H : Type} (b nn : Nat) (D0 : DataW H) (R : Value → Option (DataW H × List MemPlace)) (w : World) (hown : w.ownsMap Tryz.prog 9 R b nn D0) (hmax : Maps.size D0 ≤ maxLen) (hbytes : Maps.size D0 * 16 ≤ 140737488355328) :
    CallsIn Fence.wide 5 Tryz.prog 85 #[.func (.func 118) #[] #[.pointer (some ⟨w.heap.size, 0, none⟩)]] (w.alloc (.cells #[.map (some b)] 115)) fun e w' => ∃ (v : Value) (ss : List (List UInt8)), e = .returned v ∧ ss.Perm (strKeys D0) ∧
      w'.ownsRow (w.alloc (.cells #[.map (some b)] 115)).heap.size 9 1 v ss.length ((ss.mergeSort (fun x y => decide (x ≤ y))).map encStr) ∧ (v = .slice none 0 0 ↔ ss = []) ∧ Below (w.alloc (.cells #[.map (some b)] 115)).heap.size (w.alloc (.cells #[.map (some b)] 115)) w' := by
  have hbl := hown.lt
  have hseq : SeqGives Fence.wide 2 Tryz.prog 118 #[.pointer (some ⟨w.heap.size, 0, none⟩)] encStr (fun ss => ss.Perm (strKeys D0)) (Maps.size D0) (w.alloc (.cells #[.map (some b)] 115)) :=
    AnyZ.keys_gives (ρ := Tryz.keys169_ren) { Tryz.keys169 with } Fence.wide _ trivial rfl (by omega) w.heap.size b nn D0 _ (by simp) (by simp) (by
      obtain ⟨es, clock, hb, Ft, hs, hD⟩ := hown
      exact ⟨es, clock, (Below.heap_alloc _ _ b hbl).trans hb, Ft, hs, hD⟩)
  exact AnyZ.sorted_in Tryz.sorted168 Fence.wide 5 trivial trivial trivial trivial rfl (by omega) (Tryz.sorts168 _) (enters_of Tryz.func117 (by kernel_rfl) rfl) 118 #[.pointer (some ⟨w.heap.size, 0, none⟩)] trivial (enters_of Tryz.func118 (by kernel_rfl) rfl) _ _ hmax hbytes _ hseq
end Go.Proofs
set_option linter.unusedVariables false
set_option linter.unusedSimpArgs false
namespace Go.Proofs.YtjhgknagmiekeaaGreat.G
open Go.RowKit Go.Lib Go.Proofs Go.Conc Go.Maps Go.Sort Go.Shelf
open Go.Proofs.YtjhgknagmiekeaaGreatW.PrintWords hiding Kept
open Go.Proofs.YtjhgknagmiekeaaGreat.T (Nd NdAt ptr Tr L All valT wasV Lf Strs)
structure TxtRow (w : World) (v : Value) (ks : List ByteArray) : Prop where
  slice : ∃ A c, v = .slice A ks.length c ∧ Strs w A ks ∧ ∀ i (hi : i < ks.length), ∃ ad cs fr, A = some ad ∧ w.heap[ad.block]? = some (.cells cs 9 fr)
theorem txtRow_own {w : World} {B : Nat} {v : Value} {ks : List ByteArray} (h : w.ownsRow B 9 1 v ks.length (ks.map Value.string)) : TxtRow w v ks := by
  rcases h.2 with ⟨rfl, h2⟩ | ⟨g, cap, cur, rfl, hb, hg, hr⟩
  · exact ⟨none, 0, by rw [h2], fun i hi => by omega, fun i hi => by omega⟩
  · refine ⟨some ⟨g, 0, none⟩, cap, rfl, fun i hi => ⟨⟨g, 0, none⟩, rfl, ?_⟩, fun i hi => ⟨⟨g, 0, none⟩, cur, _, rfl, hg⟩⟩
    refine h.cells (g := g) rfl i _ ?_
    rw [List.getElem?_map, List.getElem?_eq_getElem hi]
    rfl
def txt (s : List UInt8) : ByteArray := ⟨s.toArray⟩
theorem L_txt (s : List UInt8) : L (txt s) = s := by simp [L, txt]
set_option maxRecDepth 100000 in
set_option maxHeartbeats 4000000 in
theorem txnTouched (w : World) (x b tx mb nn : Nat) (D : DataW Unit) (hx : TxnAt w x b tx mb false) (hm : Tch w mb nn D) (hnn : nn < 1000000000000) :
    Calls Tryz.prog 50 #[ptr x] w fun e w' => ∃ (v : Value) (ks : List ByteArray), e = .returned v ∧ TxtRow w' v ks ∧ (ks.map L).Perm (strKeys D) ∧ Below w.heap.size w w' := by
  have x2 : w.cell? ⟨x, 2, none⟩ = some (.map (some mb)) := by rw [blk_cell hx]; rfl
  have x3 : w.cell? ⟨x, 3, none⟩ = some (.bool false) := by rw [blk_cell hx]; rfl
  have hsz := hm.size_le
  have q1 := Aside0.mk ((callsIn_wide (n := 5)).1 (Tryz.maps_Keys_169 (some mb) w))
  have q2 := Aside0.mk ((callsIn_wide (n := 5)).1 (Tryz.slices_Sorted_keys_168_169 mb nn D (plainElem Tryz.prog 3) w hm (by unfold maxLen; omega) (by omega)))
  clear hx hm hsz hnn
  unfold ptr
  go_enter Tryz.func50, Tryz.ntmps50
  go_wp2_with (first | (go_at_call 86; refine q1.out.mono ?_; rintro e w' ⟨rfl, hw⟩; subst hw) | (go_at_call 85; refine q2.out.mono ?_; rintro e w' ⟨v, ss, rfl, hS, hrow, hnil, hb⟩))
  go_ret
  have hb0 : Below w.heap.size w (w.alloc (.cells #[.map (some mb)] 115)) := (Below.refl _ w).alloc (Nat.le_refl _) _
  refine ⟨v, (ss.mergeSort (fun x y => decide (x ≤ y))).map txt, rfl, txtRow_own (B := (w.alloc (.cells #[.map (some mb)] 115)).heap.size) ?_, ?_, T.belowAt hb0 hb⟩
  · rw [List.map_map, List.length_map, List.length_mergeSort]
    exact hrow
  · rw [List.map_map]
    have e1 : (ss.mergeSort (fun x y => decide (x ≤ y))).map (L ∘ txt) = ss.mergeSort (fun x y => decide (x ≤ y)) := by
      rw [show (L ∘ txt) = id from funext L_txt, List.map_id]
    rw [e1]
    exact (List.mergeSort_perm ss _).trans hS
end Go.Proofs.YtjhgknagmiekeaaGreat.G
set_option linter.unusedVariables false
set_option linter.unusedSimpArgs false
namespace Go.Proofs.YtjhgknagmiekeaaGreat.T
mutual
/-- the blocks of a tree's nodes -/
def bls : Nd → List Nat
  | .mk b _ _ kids _ => b :: blss kids
def blss : List Nd → List Nat
  | [] => []
  | n :: r => bls n ++ blss r
end
mutual
/-- how many nodes are not known, down to the known ones -/
def cntF (K : Nat → Bool) : Nd → Nat
  | .mk b _ _ kids _ => if K b = true then 0 else 1 + cntFs K kids
def cntFs (K : Nat → Bool) : List Nd → Nat
  | [] => 0
  | n :: r => cntF K n + cntFs K r
end
theorem bls_eq (n : Nd) : bls n = n.b :: blss n.kids := by cases n; rw [bls]; rfl
theorem cntF_eq (K : Nat → Bool) (n : Nd) : cntF K n = if K n.b = true then 0 else 1 + cntFs K n.kids := by cases n; rw [cntF]; rfl
theorem mem_blss {b : Nat} : ∀ {ks : List Nd}, b ∈ blss ks ↔ ∃ k ∈ ks, b ∈ bls k
  | [] => by rw [blss]; simp
  | n :: r => by
    rw [blss, List.mem_append, mem_blss (ks := r)]
    constructor
    · rintro (h | ⟨k, hk, h⟩)
      · exact ⟨n, by simp, h⟩
      · exact ⟨k, by simp [hk], h⟩
    · rintro ⟨k, hk, h⟩
      rcases List.mem_cons.1 hk with e | e
      · subst e; exact .inl h
      · exact .inr ⟨k, e, h⟩
def Kn (K : Nat → Bool) (n : Nd) : Prop := ∀ b ∈ bls n, K b = true
theorem Kn.self {K : Nat → Bool} {n : Nd} (h : Kn K n) : K n.b = true := h n.b (by rw [bls_eq]; simp)
theorem Kn.kid {K : Nat → Bool} {n : Nd} (h : Kn K n) {k : Nd} (hk : k ∈ n.kids) : Kn K k := fun b hb => h b (by rw [bls_eq]; exact List.mem_cons_of_mem _ (mem_blss.2 ⟨k, hk, hb⟩))
theorem Kn.zero {K : Nat → Bool} {n : Nd} (h : Kn K n) : cntF K n = 0 := by rw [cntF_eq, if_pos h.self]
end Go.Proofs.YtjhgknagmiekeaaGreat.T
set_option linter.unusedVariables false
set_option linter.unusedSimpArgs false
namespace Go.Proofs.YtjhgknagmiekeaaGreat.T
def wayL (k : ByteArray) : Nat → Option Nd → Nat → List (Nd × Nat)
  | 0, _, _ => []
  | _ + 1, none, _ => []
  | f + 1, some n, a => (n, a + n.label.size) :: wayL k f (downN n (k.extract (a + n.label.size) k.size)) (a + n.label.size)
theorem wayL_none (k : ByteArray) (f a : Nat) : wayL k f none a = [] := by cases f <;> rfl
theorem wayF_list {σ : Type} (step : σ → Nd → Nat → σ) (k : ByteArray) : ∀ (f : Nat) (o : Option Nd) (a : Nat) (s : σ), wayF step k f o a s = (wayL k f o a).foldl (fun s p => step s p.1 p.2) s
  | 0, _, _, _ => rfl
  | _ + 1, none, _, _ => rfl
  | f + 1, some n, a, s => by
    unfold wayF wayL
    rw [List.foldl_cons]
    exact wayF_list step k f _ _ _
def onR (n : Nd) (R : List UInt8) (b j : Nat) : Option (Nd × Nat) := (nodeT n (R.take j)).map fun x => (x, b + j)
theorem filterMap_head {β : Type} (g : Nat → Option β) (y : β) (A : Nat) (hA : 0 < A) (h0 : g 0 = some y) (h : ∀ j, 0 < j → j < A → g j = none) : (List.range A).filterMap g = [y] := by
  obtain ⟨m, rfl⟩ : ∃ m, A = m + 1 := ⟨A - 1, by omega⟩
  rw [List.range_succ_eq_map, List.filterMap_cons, h0]
  show y :: _ = _
  rw [List.filterMap_map]
  congr 1
  refine List.filterMap_eq_nil_iff.2 (fun j hj => ?_)
  have := List.mem_range.1 hj
  exact h (j + 1) (by omega) (by omega)
theorem fm_congr {α β : Type} {f g : α → Option β} : ∀ {l : List α}, (∀ x ∈ l, f x = g x) → l.filterMap f = l.filterMap g
  | [], _ => rfl
  | x :: l, h => by rw [List.filterMap_cons, List.filterMap_cons, h x List.mem_cons_self, fm_congr (fun y hy => h y (List.mem_cons_of_mem _ hy))]
theorem way_stop (n : Nd) (R : List UInt8) (b : Nat) (h : ∀ j, 0 < j → j ≤ R.length → nodeT n (R.take j) = none) : (List.range (R.length + 1)).filterMap (onR n R b) = [(n, b)] :=
  filterMap_head _ _ _ (by omega) (by unfold onR; rw [List.take_zero, nodeT_nil]; rfl) (fun j h1 h2 => by unfold onR; rw [h j h1 (by omega)]; rfl)
theorem way_nodes (k : ByteArray) : ∀ (f : Nat) (n : Nd) (a : Nat), Ok n → k.size + 1 < f + a + n.label.size → a + n.label.size ≤ k.size →
    wayL k f (some n) a = (List.range (((L k).drop (a + n.label.size)).length + 1)).filterMap (onR n ((L k).drop (a + n.label.size)) (a + n.label.size)) := by
  intro f
  induction f with
  | zero => intro n a _ h1 h2; omega
  | succ f ih =>
    intro n a ho h1 h2
    obtain ⟨a2, ea⟩ : ∃ a2, a + n.label.size = a2 := ⟨_, rfl⟩
    unfold wayL
    rw [ea]
    have hsz : (k.extract a2 k.size).size = k.size - a2 := by simp only [ByteArray.size_extract]; omega
    have hRl : ((L k).drop a2).length = k.size - a2 := by rw [List.length_drop, L_len]
    by_cases hend : a2 = k.size
    · have e1 : downN n (k.extract a2 k.size) = none := by unfold downN; rw [if_pos (by omega)]
      rw [e1, wayL_none]
      exact (way_stop n _ a2 (fun j h3 h4 => by omega)).symm
    · have e1 := downN_eq n ho (k.extract a2 k.size) (by omega)
      rw [L_tail] at e1
      obtain ⟨R, eR⟩ : ∃ R, (L k).drop a2 = R := ⟨_, rfl⟩
      rw [eR] at e1 hRl ⊢
      have hF : ∀ j, 0 < j → j ≤ R.length → nodeT n (R.take j) = (kidT n.kids (hd R)).bind (beneath (R.take j)) := fun j h3 h4 => by
        rw [nodeT_eq _ _ (fun e => by have := congrArg List.length e; rw [List.length_take, List.length_nil] at this; omega), hd_take R j h3]
      cases ek : kidT n.kids (hd R) with
      | none =>
        rw [ek] at e1 hF
        have e2 : downN n (k.extract a2 k.size) = none := e1
        rw [e2, wayL_none]
        exact (way_stop n R a2 (fun j h3 h4 => by rw [hF j h3 h4]; rfl)).symm
      | some m =>
        rw [ek] at e1 hF
        simp only [Option.bind_some] at e1 hF
        have hm := (kidT_some ek).1
        have hpos := ho.parts.2.1 m hm
        have hml : (L m.label).length = m.label.size := L_len _
        by_cases hp : L m.label <+: R
        · rw [if_pos hp] at e1
          have hle := hp.length_le
          rw [hml] at hle
          rw [e1]
          have hI := ih m a2 (ho.parts.2.2.get m hm) (by omega) (by omega)
          have eR2 : (L k).drop (a2 + m.label.size) = R.drop m.label.size := by rw [← eR, List.drop_drop]
          rw [eR2] at hI
          have hRd : (R.drop m.label.size).length = R.length - m.label.size := List.length_drop
          have hsmall : ∀ j, 0 < j → j < m.label.size → nodeT n (R.take j) = none := fun j h3 h4 => by
            rw [hF j h3 (by omega)]
            unfold beneath
            rw [if_neg (fun e => by have := e.2.length_le; rw [hml, List.length_take] at this; omega)]
          have hbig : ∀ j, j ≤ R.length - m.label.size → nodeT n (R.take (m.label.size + j)) = nodeT m ((R.drop m.label.size).take j) := fun j h3 => by
            rw [hF _ (by omega) (by omega)]
            unfold beneath
            have hpre : L m.label <+: R.take (m.label.size + j) := by
              obtain ⟨t, ht⟩ := hp
              rw [← ht, ← hml, List.take_length_add_append]
              exact List.prefix_append _ _
            rw [if_pos ⟨hpos, hpre⟩]
            congr 1
            rw [List.drop_take]
            congr 1
            omega
          obtain ⟨D, eD⟩ : ∃ D, (R.drop m.label.size).length + 1 = D := ⟨_, rfl⟩
          rw [hI, eD, show R.length + 1 = m.label.size + D from by omega, List.range_add, List.filterMap_append, filterMap_head (onR n R a2) (n, a2) m.label.size hpos (by unfold onR; rw [List.take_zero, nodeT_nil]; rfl) (fun j h3 h4 => by unfold onR; rw [hsmall j h3 h4]; rfl), List.filterMap_map]
          show _ :: _ = _ :: _
          congr 1
          refine fm_congr (fun j hj => ?_)
          have hj2 := List.mem_range.1 hj
          show onR m _ _ j = onR n R a2 (m.label.size + j)
          unfold onR
          rw [hbig j (by omega), Nat.add_assoc]
        · rw [if_neg hp] at e1
          rw [e1, wayL_none]
          refine (way_stop n R a2 (fun j h3 h4 => ?_)).symm
          rw [hF j h3 h4]
          unfold beneath
          rw [if_neg (fun e => hp (e.2.trans (List.take_prefix _ _)))]
theorem way_root {root : Nd} (h : Good root) (k : ByteArray) : wayL k (k.size + 2) (some root) 0 = (List.range (k.size + 1)).filterMap (onR root (L k) 0) := by
  have h1 := way_nodes k (k.size + 2) root 0 h.ok (by omega) (by have := h.top; omega)
  rw [h.top] at h1
  simp only [Nat.zero_add, List.drop_zero] at h1
  rw [h1, L_len]
theorem last_on (n : Nd) (R : List UInt8) : ∀ N : Nat, ∃ r, ((List.range (N + 1)).filterMap (onR n R 0)).foldl (fun _ p => p.2) 0 = r ∧ r ≤ N ∧ nodeT n (R.take r) ≠ none ∧ ∀ j, r < j → j ≤ N → nodeT n (R.take j) = none
  | 0 => ⟨0, by
    have e : (List.range (0 + 1)).filterMap (onR n R 0) = [(n, 0)] := filterMap_head _ _ _ (by omega) (by unfold onR; rw [List.take_zero, nodeT_nil]; rfl) (fun j h1 h2 => by omega)
    rw [e]; rfl, Nat.le_refl _, by rw [List.take_zero, nodeT_nil]; simp, fun j h1 h2 => by omega⟩
  | N + 1 => by
    obtain ⟨r, h1, h2, h3, h4⟩ := last_on n R N
    rw [List.range_succ, List.filterMap_append, List.foldl_append, h1]
    cases e : nodeT n (R.take (N + 1)) with
    | none =>
      refine ⟨r, ?_, by omega, h3, fun j h5 h6 => ?_⟩
      · rw [List.filterMap_cons, show onR n R 0 (N + 1) = none from by unfold onR; rw [e]; rfl]; rfl
      · by_cases h7 : j = N + 1
        · rw [h7]; exact e
        · exact h4 j h5 (by omega)
    | some x =>
      refine ⟨N + 1, ?_, Nat.le_refl _, by rw [e]; simp, fun j h5 h6 => by omega⟩
      rw [List.filterMap_cons, show onR n R 0 (N + 1) = some (x, N + 1) from by unfold onR; rw [e, Nat.zero_add]; rfl]; rfl
theorem reach_eq {root : Nd} (h : Good root) (k : ByteArray) : reachN root k ≤ k.size ∧ nodeT root ((L k).take (reachN root k)) ≠ none ∧ ∀ j, reachN root k < j → j ≤ k.size → nodeT root ((L k).take j) = none := by
  obtain ⟨r, h1, h2, h3, h4⟩ := last_on root (L k) k.size
  have e : reachN root k = r := by
    unfold reachN
    rw [wayF_list, way_root h, ← h1]
    rfl
  rw [e]
  exact ⟨h2, h3, h4⟩
end Go.Proofs.YtjhgknagmiekeaaGreat.T
set_option linter.unusedVariables false
set_option linter.unusedSimpArgs false
namespace Go.Proofs.YtjhgknagmiekeaaGreat.G
open Go.RowKit Go.Lib Go.Proofs Go.Conc Go.Maps
open Go.Proofs.YtjhgknagmiekeaaGreatW.PrintWords hiding Kept
open Go.Proofs.YtjhgknagmiekeaaGreat.T (Nd NdAt ptr Tr L All valT wasV Lf Strs wayL wayF)
def CellsOf (w : World) (q : TypeId → Bool) (p : Nat → Prop) : Prop := ∀ k, p k → ∃ cs t fr, w.heap[k]? = some (.cells cs t fr) ∧ q t = true
theorem Only.farP {p : Nat → Prop} {q : TypeId → Bool} {w w' : World} (h : Only p w w') (hp : CellsOf w q p) : FarP q w w' := fun b cs t fr hb ht => h.at hb (fun e => by
  obtain ⟨cs', t', fr', h1, h2⟩ := hp b e
  rw [hb] at h1
  injection h1 with e1
  injection e1 with _ e2 _
  rw [e2, h2] at ht
  cases ht)
theorem Only.watch {p : Nat → Prop} {q : TypeId → Bool} {w w' : World} (h : Only p w w') (hp : CellsOf w q p) (h154 : q 153 = false) {c : Nat} {d : Bool} (hw : WatchAt w (c + 1) c d) : WatchAt w' (c + 1) c d :=
  ⟨h.farP hp _ _ _ _ hw.obj h154, h.at hw.ch (fun e => by
    obtain ⟨cs', t', fr', h1, h2⟩ := hp c e
    rw [hw.ch] at h1
    cases h1)⟩
theorem MkAt.imp {w w' : World} (h : ∀ c d, WatchAt w (c + 1) c d → ∃ d', WatchAt w' (c + 1) c d') {m : Value} (hm : MkAt w m) : MkAt w' m := by
  obtain ⟨c, d, e, hw⟩ := hm
  obtain ⟨d', hw'⟩ := h c d hw
  exact ⟨c, d', e, hw'⟩
theorem TxtRow.far {p : TypeId → Bool} (h9 : p 9 = false) {w w' : World} (h : FarP p w w') {v : Value} {ks : List ByteArray} (ht : TxtRow w v ks) : TxtRow w' v ks := by
  obtain ⟨A, c, e, hs, hb⟩ := ht.slice
  exact ⟨A, c, e, strs_far h9 h hb hs, fun i hi => by
    obtain ⟨ad, cs, fr, e1, e2⟩ := hb i hi
    exact ⟨ad, cs, fr, e1, h _ _ _ _ e2 h9⟩⟩
theorem fold_shoot (w0 : World) : ∀ (l : List Nat) (s : (Nat → Bool) × Int) (x : Nat), (l.foldl (shootC w0) s).1 x = true → s.1 x = true ∨ x ∈ l
  | [], s, x, h => .inl h
  | c :: l, s, x, h => by
    rcases fold_shoot w0 l (shootC w0 s c) x h with h1 | h1
    · have h2 : (s.1 x || x == c) = true := h1
      rw [Bool.or_eq_true] at h2
      rcases h2 with h2 | h2
      · exact .inl h2
      · exact .inr (by rw [beq_iff_eq.1 h2]; exact List.mem_cons_self)
    · exact .inr (List.mem_cons_of_mem _ h1)
theorem marksOn_mks {k : ByteArray} {n : Nd} {a x : Nat} (h : x ∈ marksOn k n a) : ∃ m ∈ mks n, chOf m = x := by
  unfold marksOn at h
  rcases List.mem_cons.1 h with h | h
  · exact ⟨n.mark, mks_mark n, h.symm⟩
  · split at h
    · cases e : n.leaf with
      | none => rw [e] at h; cases h
      | some l =>
        rw [e] at h
        have h2 : x = chOf l.mark := by simpa using h
        exact ⟨l.mark, mks_leaf e, h2.symm⟩
    · cases h
theorem wayL_mks (k : ByteArray) (root : Nd) : ∀ (f : Nat) (o : Option Nd) (a : Nat), (∀ n, o = some n → ∀ m ∈ mks n, m ∈ mks root) → ∀ p ∈ wayL k f o a, ∀ m ∈ mks p.1, m ∈ mks root
  | 0, _, _, _, p, hp, _, _ => by unfold wayL at hp; cases hp
  | _ + 1, none, _, _, p, hp, _, _ => by unfold wayL at hp; cases hp
  | f + 1, some n, a, h, p, hp, m, hm => by
    unfold wayL at hp
    rcases List.mem_cons.1 hp with e | e
    · rw [e] at hm; exact h n rfl m hm
    · refine wayL_mks k root f _ _ (fun x hx m' hm' => ?_) p e m hm
      exact h n rfl m' (mks_kid (T.downN_some hx).1 hm')
theorem fold_way (w0 : World) (k : ByteArray) (root : Nd) : ∀ (l : List (Nd × Nat)) (s : (Nat → Bool) × Int) (x : Nat), (∀ p ∈ l, ∀ m ∈ mks p.1, m ∈ mks root) → (l.foldl (fun s p => stepW w0 k s p.1 p.2) s).1 x = true → s.1 x = true ∨ ∃ m ∈ mks root, chOf m = x
  | [], s, x, _, h => .inl h
  | p :: l, s, x, hl, h => by
    rcases fold_way w0 k root l _ x (fun q hq => hl q (List.mem_cons_of_mem _ hq)) h with h1 | h1
    · rcases fold_shoot w0 _ s x h1 with h2 | h2
      · exact .inl h2
      · obtain ⟨m, h3, h4⟩ := marksOn_mks h2
        exact .inr ⟨m, hl p List.mem_cons_self m h3, h4⟩
    · exact .inr h1
theorem fireK_mks (w0 : World) (root : Nd) (s : (Nat → Bool) × Int) (k : ByteArray) (x : Nat) (h : (fireK w0 root s k).1 x = true) : s.1 x = true ∨ ∃ m ∈ mks root, chOf m = x := by
  unfold fireK at h
  rw [T.wayF_list] at h
  exact fold_way w0 k root _ s x (wayL_mks k root _ _ _ (fun n e m hm => by cases e; exact hm)) h
theorem fold_fire (w0 : World) (root : Nd) : ∀ (ks : List ByteArray) (s : (Nat → Bool) × Int) (x : Nat), (ks.foldl (fireK w0 root) s).1 x = true → s.1 x = true ∨ ∃ m ∈ mks root, chOf m = x
  | [], s, x, h => .inl h
  | k :: ks, s, x, h => by
    rcases fold_fire w0 root ks _ x h with h1 | h1
    · exact fireK_mks w0 root s k x h1
    · exact .inr h1
theorem fireAll_mks (w0 : World) (root : Nd) (ks : List ByteArray) (x : Nat) (h : (fireAll w0 root ks).1 x = true) : ∃ m ∈ mks root, chOf m = x := by
  rcases fold_fire w0 root ks _ x h with h1 | h1
  · cases h1
  · exact h1
end Go.Proofs.YtjhgknagmiekeaaGreat.G
set_option linter.unusedVariables false
set_option linter.unusedSimpArgs false
namespace Go.Proofs.YtjhgknagmiekeaaGreat.G
open Go.RowKit Go.Lib Go.Proofs Go.Conc Go.Maps
open Go.Proofs.YtjhgknagmiekeaaGreatW.PrintWords hiding Kept
open Go.Proofs.YtjhgknagmiekeaaGreatW.PrintLast
open Go.Proofs.YtjhgknagmiekeaaGreat.T (Nd NdAt ptr Tr L All valT wasV Lf Strs)
theorem FarP.mono {p q : TypeId → Bool} {w w' : World} (h : FarP p w w') (hq : ∀ t, q t = false → p t = false) : FarP q w w' := fun b cs t fr hb ht => h b cs t fr hb (hq t ht)
def tXB (t : TypeId) : Bool := t == 117 || t == 99
def tAll (t : TypeId) : Bool := t == 117 || t == 99 || t == 153
structure Done (w w' : World) (b x tb tx : Nat) (n : Int) (root : Nd) (D : DataW Unit) (cnt : Int) : Prop where
  base : ∃ v', BaseAt w' b v' tx (n + 1) false
  far : FarP tAll w w'
  watch : ∀ c d, WatchAt w (c + 1) c d → ∃ d', WatchAt w' (c + 1) c d'
  count : ∃ (W : World) (ks : List ByteArray), (∀ c d, WatchAt w (c + 1) c d → WatchAt W (c + 1) c d) ∧ (ks.map L).Perm (strKeys D) ∧ cnt = (fireAll W root ks).2
  below : ∀ B, B ≤ w.heap.size → B ≤ x → B ≤ b → (∀ m ∈ mks root, B ≤ chOf m) → Below B w w'
  size : w.heap.size ≤ w'.heap.size
def cm9_T : Bool × List (List Nat × List Nat) := (true, [([], []), ([0], [0]), ([1], [1]), ([2], [2]), ([3], [3]), ([4], [4]), ([], []), ([6], [6]), ([7], [7]), ([8], [8]), ([], []), ([10], [10]), ([11], [11]), ([12], [12]), ([13], [13]), ([9, 14], [9, 14]), ([15], [15]), ([5, 16], [5, 16])])
def cm9_B : List Nat := [0, 1, 3, 7, 15, 31, 0, 64, 192, 448, 0, 1024, 3072, 7168, 15360, 32704, 65472, 131071]
theorem cm9_bits : waitsOk cm9_T.2 cm9_B = true := by kernel_rfl
theorem cm9_tab : rtab .any (opsOf Tryz.f30 9) = cm9_T := by kernel_rfl
attribute [local go_sem] Oper.semAt_some
set_option maxRecDepth 100000 in
set_option maxHeartbeats 4000000 in
theorem txnCommit (w : World) (x b v tb tx mb nn : Nat) (n : Int) (D : DataW Unit) (root : Nd) (hb : BaseAt w b v tb n true) (hx : TxnAt w x b tx mb false) (hm : Tch w mb nn D) (hnn : nn < 1000000000000) (ht : Tr w tb root) (hM : Mks w root) (hD : ∀ s ∈ strKeys D, s.length < 4000000000000) (hne : strKeys D ≠ []) (hn0 : 0 ≤ n) (hn1 : n < 1000000000000) :
    Calls Tryz.prog 30 #[ptr x] w fun e w' => ∃ cnt : Int, e = .returned (.tuple #[.int .i64 cnt, .int .i64 0]) ∧ Done w w' b x tb tx n root D cnt := by
  have hlen : (strKeys D).length < 1000000000000 := by
    obtain ⟨es, cl, -, -, -, e⟩ := id hm
    have h9 := hm.size_le
    rw [e] at h9 ⊢
    unfold strKeys
    rw [List.length_map]
    exact Nat.lt_of_le_of_lt h9 hnn
  have q1 := Aside0.mk (txnTouched w x b tx mb nn D hx hm hnn)
  have x3 : w.cell? ⟨x, 3, none⟩ = some (.bool false) := by rw [blk_cell hx]; rfl
  have HH := Aside0.mk (And.intro hb (And.intro hx (And.intro ht (And.intro hM (And.intro hD (And.intro hne hlen))))))
  have hnot : ∀ (x : Bool) (w : World), (Op.unary .not (.bool x)).run Tryz.prog w = .ok (.bool (!x)) w := fun _ _ => rfl
  clear hb hx hm hnn ht hM hD hne hlen
  unfold ptr at q1 ⊢
  go_enter_defers Tryz.func30, Tryz.ntmps30
  go_wp2_with fail
  go_at_call 50
  refine q1.out.mono ?_
  rintro e w1 ⟨vv, ks, rfl, hrow, hperm, hb1⟩
  have hx1 := (hb1.block _ (Array.getElem?_eq_some_iff.1 HH.out.2.1).1).trans HH.out.2.1
  have y0 : w1.cell? ⟨x, 0, none⟩ = some (.pointer (some ⟨b, 0, none⟩)) := by rw [blk_cell hx1]; rfl
  have y3 : w1.cell? ⟨x, 3, none⟩ = some (.bool false) := by rw [blk_cell hx1]; rfl
  have g3 : w1.frozen? ⟨x, 3, none⟩ = false := blk_frozen hx1 3
  have H1 := Aside0.mk (And.intro hrow (And.intro hperm (And.intro hb1 hx1)))
  obtain ⟨A, c, rfl, hstr, hty⟩ := hrow.slice
  have hkl : ks.length = (strKeys D).length := by rw [← hperm.length_eq, List.length_map]
  obtain ⟨N, eN⟩ : ∃ N, ks.length = N + 1 := ⟨ks.length - 1, by have := List.length_pos_iff.2 HH.out.2.2.2.2.2.1; omega⟩
  have HN := Aside0.mk eN
  have hNl : N < 1000000000000 := by have := HH.out.2.2.2.2.2.2; omega
  rw [eN]
  clear hrow hperm hb1 hx1 hstr hty q1 x3 hkl eN
  go_upto_region 5 with fail
  obtain ⟨W2, eW2⟩ : ∃ W2, w1.setCell ⟨x, 3, none⟩ (.bool true) = W2 := ⟨_, rfl⟩
  have ho2 : Only (fun k => k = x) w W2 := by rw [← eW2]; exact (Only.of (p := fun k => k = x) H1.out.2.2.1).put x 3 (.inl rfl) _
  have hx2 : TxnAt W2 x b tx mb true := by rw [← eW2]; exact set_atG H1.out.2.2.2 3 _
  have hcx : CellsOf w (fun t => t == 117) (fun k => k = x) := fun k e => by rw [e]; exact ⟨_, _, _, HH.out.2.1, rfl⟩
  have hb2 : BaseAt W2 b v tb n true := ⟨ho2.farP hcx _ _ _ _ HH.out.1.base rfl, ho2.farP hcx _ _ _ _ HH.out.1.ver rfl⟩
  have hrow2 : TxtRow W2 (.slice A ks.length c) ks := by
    have h1 : TxtRow w1 (.slice A ks.length c) ks := H1.out.1
    have h2 : FarP (fun t => t == 117) w1 W2 := by
      rw [← eW2]
      have h3 : Only (fun k => k = x) w1 (w1.setCell ⟨x, 3, none⟩ (.bool true)) := (Only.refl (fun k => k = x) w1).put x 3 (.inl rfl) _
      exact h3.farP (fun k e => by rw [e]; exact ⟨_, _, _, H1.out.2.2.2, rfl⟩)
    exact h1.far rfl h2
  have x0 : W2.cell? ⟨x, 0, none⟩ = some (.pointer (some ⟨b, 0, none⟩)) := by rw [blk_cell hx2]; rfl
  have x1 : W2.cell? ⟨x, 1, none⟩ = some (.pointer (some ⟨tx, 0, none⟩)) := by rw [blk_cell hx2]; rfl
  have v1 : W2.cell? ⟨v, 1, none⟩ = some (.int .u64 n) := by rw [blk_cell hb2.ver]; rfl
  have q2 := Aside0.mk (loadPtr b v _ _ W2 (by rw [blk_cell hb2.base]; rfl) hb2.ver)
  have H2 := Aside0.mk (And.intro ho2 (And.intro hx2 (And.intro hb2 (And.intro hrow2 hcx))))
  rw [eW2]
  clear y0 y3 g3 ho2 hx2 hcx hb2 hrow2 eW2
  have hNe : ¬ ((N + 1 : Nat) : Int) = 0 := by omega
  have hwr : IntKind.u64.wrap (n + 1) = n + 1 := by rw [IntKind.wrap_u64]; omega
  unfold ptr at q2
  go_wp2_with (first | (go_at_call 36; refine q2.out.mono ?_; rintro e w' ⟨rfl, hw⟩; subst hw))
  refine Code.wp_mono NoPanic.imp ?_
  refine start_ (n := 18) (S := (fun Z => Z.cell? ⟨x, 0, none⟩ = some (.pointer (some ⟨b, 0, none⟩)) ∧ Z.cell? ⟨x, 1, none⟩ = some (.pointer (some ⟨tx, 0, none⟩)) ∧ Z.cell? ⟨v, 1, none⟩ = some (.int .u64 n))) (ds := [17]) #[false, false, false, false, false, false, false, false, false, false, false, false, false, false, false, false, false, false] (by kernel_rfl) rfl rfl ⟨x0, x1, v1⟩ (fun hHeld => ?_); refine with_tabW cm9_tab cm9_bits (fun HT_ HW_ => ?_)
  refine pure_ (i := 0) (N := some 31) (v := ?_) (a' := ?_) #[true, false, false, false, false, false, false, false, false, false, false, false, false, false, false, false, false, false] rfl rfl (any_of HT_.out (by kernel_rfl)) (fun _ _ _ h => h) (Or.inl ⟨by rfl, ?_⟩) ?_ ?_
  rotate_left
  · intro w'
    go_simp
    with_reducible rfl
  rotate_left
  · simp only [Act.put, List.setIfInBounds_toArray, List.set_cons_zero, List.set_cons_succ, i64_w, i32_w]
    rfl
  refine pure_ (i := 1) (N := some 32) (v := ?_) (a' := ?_) #[true, true, false, false, false, false, false, false, false, false, false, false, false, false, false, false, false, false] rfl rfl (any_of HT_.out (by kernel_rfl)) (fun _ _ _ h => h) (Or.inl ⟨by rfl, ?_⟩) ?_ ?_
  rotate_left
  · intro w'
    go_simp
    with_reducible rfl
  rotate_left
  · simp only [Act.put, List.setIfInBounds_toArray, List.set_cons_zero, List.set_cons_succ, i64_w, i32_w]
    rfl
  refine pure_ (i := 2) (N := some 33) (v := ?_) (a' := ?_) #[true, true, true, false, false, false, false, false, false, false, false, false, false, false, false, false, false, false] rfl rfl (any_of HT_.out (by kernel_rfl)) (fun _ _ _ h => h) (Or.inl ⟨by rfl, ?_⟩) ?_ ?_
  rotate_left
  · intro w'
    go_simp
    with_reducible rfl
  rotate_left
  · simp only [Act.put, List.setIfInBounds_toArray, List.set_cons_zero, List.set_cons_succ, i64_w, i32_w]
    rfl
  refine pure_ (i := 6) (N := some 37) (v := ?_) (a' := ?_) #[true, true, true, false, false, false, true, false, false, false, false, false, false, false, false, false, false, false] rfl rfl (any_of HT_.out (by kernel_rfl)) (fun _ _ _ h => h) (Or.inl ⟨by rfl, ?_⟩) ?_ ?_
  rotate_left
  · intro w'
    go_simp
    with_reducible rfl
  rotate_left
  · simp only [Act.put, List.setIfInBounds_toArray, List.set_cons_zero, List.set_cons_succ, i64_w, i32_w]
    rfl
  refine pure_ (i := 7) (N := some 38) (v := ?_) (a' := ?_) #[true, true, true, false, false, false, true, true, false, false, false, false, false, false, false, false, false, false] rfl rfl (any_of HT_.out (by kernel_rfl)) (fun _ _ _ h => h) (Or.inl ⟨by rfl, ?_⟩) ?_ ?_
  rotate_left
  · intro w'
    go_simp
    with_reducible rfl
  rotate_left
  · simp only [Act.put, List.setIfInBounds_toArray, List.set_cons_zero, List.set_cons_succ, i64_w, i32_w]
    rfl
  refine pure_ (i := 8) (N := some 39) (v := ?_) (a' := ?_) #[true, true, true, false, false, false, true, true, true, false, false, false, false, false, false, false, false, false] rfl rfl (any_of HT_.out (by kernel_rfl)) (fun _ _ _ h => h) (Or.inl ⟨by rfl, ?_⟩) ?_ ?_
  rotate_left
  · intro w'
    go_simp
    with_reducible rfl
  rotate_left
  · simp only [Act.put, List.setIfInBounds_toArray, List.set_cons_zero, List.set_cons_succ, i64_w, i32_w]
    rfl
  refine pure_ (i := 10) (N := some 41) (v := ?_) (a' := ?_) #[true, true, true, false, false, false, true, true, true, false, true, false, false, false, false, false, false, false] rfl rfl (any_of HT_.out (by kernel_rfl)) (fun _ _ _ h => h) (Or.inl ⟨by rfl, ?_⟩) ?_ ?_
  rotate_left
  · intro w'
    go_simp
    with_reducible rfl
  rotate_left
  · simp only [Act.put, List.setIfInBounds_toArray, List.set_cons_zero, List.set_cons_succ, i64_w, i32_w]
    rfl
  refine pure_ (i := 11) (N := some 42) (v := ?_) (a' := ?_) #[true, true, true, false, false, false, true, true, true, false, true, true, false, false, false, false, false, false] rfl rfl (any_of HT_.out (by kernel_rfl)) (fun _ _ _ h => h) (Or.inl ⟨by rfl, ?_⟩) ?_ ?_
  rotate_left
  · intro w'
    go_simp
    with_reducible rfl
  rotate_left
  · simp only [Act.put, List.setIfInBounds_toArray, List.set_cons_zero, List.set_cons_succ, i64_w, i32_w]
    rfl
  refine pure_ (i := 12) (N := some 43) (v := ?_) (a' := ?_) #[true, true, true, false, false, false, true, true, true, false, true, true, true, false, false, false, false, false] rfl rfl (any_of HT_.out (by kernel_rfl)) (fun _ _ _ h => h) (Or.inl ⟨by rfl, ?_⟩) ?_ ?_
  rotate_left
  · intro w'
    go_simp
    with_reducible rfl
  rotate_left
  · simp only [Act.put, List.setIfInBounds_toArray, List.set_cons_zero, List.set_cons_succ, i64_w, i32_w]
    rfl
  refine take_ (i := 3) (N := some 34) (v := ?_) (a' := ?_) #[true, true, true, true, false, false, true, true, true, false, true, true, true, false, false, false, false, false] rfl rfl (take_ofW HT_.out HW_.out (by kernel_rfl)) (fun _ _ _ h => h) (Or.inl ⟨by rfl, ?_⟩) hHeld ?_ ?_
  rotate_left
  · rintro w' ⟨s0, s1, s2⟩
    go_simp
    with_reducible rfl
  rotate_left
  · simp only [Act.put, List.setIfInBounds_toArray, List.set_cons_zero, List.set_cons_succ, i64_w, i32_w]
    rfl
  refine take_ (i := 9) (N := some 40) (v := ?_) (a' := ?_) #[true, true, true, true, false, false, true, true, true, true, true, true, true, false, false, false, false, false] rfl rfl (take_ofW HT_.out HW_.out (by kernel_rfl)) (fun _ _ _ h => h) (Or.inl ⟨by rfl, ?_⟩) hHeld ?_ ?_
  rotate_left
  · rintro w' ⟨s0, s1, s2⟩
    go_simp
    with_reducible rfl
  rotate_left
  · simp only [Act.put, List.setIfInBounds_toArray, List.set_cons_zero, List.set_cons_succ, i64_w, i32_w]
    rfl
  refine take_ (i := 13) (N := some 44) (v := ?_) (a' := ?_) #[true, true, true, true, false, false, true, true, true, true, true, true, true, true, false, false, false, false] rfl rfl (take_ofW HT_.out HW_.out (by kernel_rfl)) (fun _ _ _ h => h) (Or.inl ⟨by rfl, ?_⟩) hHeld ?_ ?_
  rotate_left
  · rintro w' ⟨s0, s1, s2⟩
    go_simp
    with_reducible rfl
  rotate_left
  · simp only [Act.put, List.setIfInBounds_toArray, List.set_cons_zero, List.set_cons_succ, i64_w, i32_w]
    rfl
  refine pure_ (i := 4) (N := some 35) (v := ?_) (a' := ?_) #[true, true, true, true, true, false, true, true, true, true, true, true, true, true, false, false, false, false] rfl rfl (any_of HT_.out (by kernel_rfl)) (fun _ _ _ h => h) (Or.inl ⟨by rfl, ?_⟩) ?_ ?_
  rotate_left
  · intro w'
    go_simp
    with_reducible rfl
  rotate_left
  · simp only [Act.put, List.setIfInBounds_toArray, List.set_cons_zero, List.set_cons_succ, i64_w, i32_w]
    rfl
  refine pure_ (i := 5) (N := some 36) (v := ?_) (a' := ?_) #[true, true, true, true, true, true, true, true, true, true, true, true, true, true, false, false, false, false] rfl rfl (any_of HT_.out (by kernel_rfl)) (fun _ _ _ h => h) (Or.inl ⟨by rfl, ?_⟩) ?_ ?_
  rotate_left
  · intro w'
    go_simp
    with_reducible rfl
  rotate_left
  · simp only [Act.put, List.setIfInBounds_toArray, List.set_cons_zero, List.set_cons_succ, i64_w, i32_w]
    rfl
  refine pure_ (i := 14) (N := some 45) (v := ?_) (a' := ?_) #[true, true, true, true, true, true, true, true, true, true, true, true, true, true, true, false, false, false] rfl rfl (any_of HT_.out (by kernel_rfl)) (fun _ _ _ h => h) (Or.inl ⟨by rfl, ?_⟩) ?_ ?_
  rotate_left
  · intro w'
    go_simp
    with_reducible rfl
  rotate_left
  · simp only [Act.put, List.setIfInBounds_toArray, List.set_cons_zero, List.set_cons_succ, i64_w, i32_w]
    rfl
  refine pure_ (i := 15) (N := some 46) (v := ?_) (a' := ?_) #[true, true, true, true, true, true, true, true, true, true, true, true, true, true, true, true, false, false] rfl rfl (any_of HT_.out (by kernel_rfl)) (fun _ _ _ h => h) (Or.inl ⟨by rfl, ?_⟩) ?_ ?_
  rotate_left
  · intro w'
    go_simp
    with_reducible rfl
  rotate_left
  · simp only [Act.put, List.setIfInBounds_toArray, List.set_cons_zero, List.set_cons_succ, i64_w, i32_w]
    rfl
  refine one_ (i := 16) (N := some 47) #[true, true, true, true, true, true, true, true, true, true, true, true, true, true, true, true, true, false] rfl rfl (one_of HT_.out (by kernel_rfl)) (by decide) (fun K hK => ?_)
  refine value_ (w1 := w'.drew.alloc (.cells #[.pointer (some ⟨tx, 0, none⟩), .int .u64 (n + 1)] 102)) (v := .pointer (some ⟨w'.heap.size, 0, none⟩)) (by rfl) rfl (by go_simp) ?_
  have hb3 : Below w'.heap.size w' (w'.drew.alloc (.cells #[.pointer (some ⟨tx, 0, none⟩), .int .u64 (n + 1)] 102)) := (below_drew (Below.refl _ w')).alloc (Nat.le_refl _) _
  have h3 : (fun Z => Z.cell? ⟨x, 0, none⟩ = some (.pointer (some ⟨b, 0, none⟩)) ∧ Z.cell? ⟨x, 1, none⟩ = some (.pointer (some ⟨tx, 0, none⟩)) ∧ Z.cell? ⟨v, 1, none⟩ = some (.int .u64 n)) (w'.drew.alloc (.cells #[.pointer (some ⟨tx, 0, none⟩), .int .u64 (n + 1)] 102)) := ⟨(T.Kept.of hb3).cell x0, (T.Kept.of hb3).cell x1, (T.Kept.of hb3).cell v1⟩
  clear hHeld
  refine hK.out _ _ h3 (fun hHeld => ?_)
  clear hK K
  refine norm_ (a' := ?_) ?_ ?_
  rotate_left
  · show Act.put _ (some 47) _ = _
    simp only [Act.put, List.setIfInBounds_toArray, List.set_cons_zero, List.set_cons_succ, i64_w, i32_w]
    rfl
  obtain ⟨V, eV⟩ : ∃ V, w'.heap.size = V := ⟨_, rfl⟩
  obtain ⟨W3, eW3⟩ : ∃ W3, w'.drew.alloc (.cells #[.pointer (some ⟨tx, 0, none⟩), .int .u64 (n + 1)] 102) = W3 := ⟨_, rfl⟩
  have hv3 : W3.heap[V]? = some (.cells #[.pointer (some ⟨tx, 0, none⟩), .int .u64 (n + 1)] 102 (0, 0)) := by rw [← eW3, ← eV]; exact heap_alloc_new w'.drew _
  rw [eW3] at hb3
  have hB3 := H2.out.2.2.1.move (hb3.block _ (Array.getElem?_eq_some_iff.1 H2.out.2.2.1.base).1) (hb3.block _ (Array.getElem?_eq_some_iff.1 H2.out.2.2.1.ver).1)
  have q3 := Aside0.mk (storePtr b V _ _ _ W3 (by rw [blk_cell hB3.base]; rfl) (blk_frozen hB3.base 0) hv3)
  have H3 := Aside0.mk (And.intro hb3 (And.intro hv3 (And.intro hB3 eV)))
  rw [eW3, eV]
  clear hb3 h3 hv3 hB3 eW3 eV
  unfold ptr at q3
  refine last_ (i := 17) (N := some 48) #[true, true, true, true, true, true, true, true, true, true, true, true, true, true, true, true, true, true] rfl rfl (one_of HT_.out (by kernel_rfl)) (by decide) (fun K hK => ?_)
  refine goes_ Tryz.func34 (by kernel_rfl) rfl #[.pointer (some ⟨b, 0, none⟩), .pointer (some ⟨V, 0, none⟩)] (by rfl) rfl rfl (by (try simp only [List.map_toArray, List.map_cons, List.map_nil]); first | done | rfl) ?_
  refine q3.out.mono ?_
  rintro e w4 ⟨rfl, hw4⟩
  have HW4 := Aside0.mk hw4
  clear hw4 hHeld
  refine ⟨_, rfl, ?_⟩
  refine hK.out _ _ ?_
  clear hK K
  refine done_ (done_of HT_.out (by kernel_rfl)) ?_
  refine NoPanic.normal ?_
  clear q2 q3 HT_ HW_ x0 x1 v1
  have hw4 := HW4.out
  have ho4 : Only (fun k => k = x ∨ k = b) w w4 := by
    rw [hw4]
    exact (H2.out.1.trans (Only.of (p := fun k => k = b) H3.out.1)).put b 0 (.inl (.inr rfl)) _
  have hcb : CellsOf w tXB (fun k => k = x ∨ k = b) := fun k e => by
    rcases e with e | e
    · rw [e]; exact ⟨_, _, _, HH.out.2.1, rfl⟩
    · rw [e]; exact ⟨_, _, _, HH.out.1.base, rfl⟩
  have hfp := ho4.farP hcb
  have ht4 : Tr w4 tb root := hfp.tr rfl rfl rfl rfl HH.out.2.2.1
  have hM4 : Mks w4 root := fun m hm => (HH.out.2.2.2.1 m hm).imp (fun c d hw => ⟨d, ho4.watch hcb rfl hw⟩)
  have hfp3 : FarP (fun t => t == 99) W3 w4 := by
    rw [hw4]
    exact ((Only.refl (fun k => k = b) W3).put b 0 (.inl rfl) _).farP (fun k e => by rw [e]; exact ⟨_, _, _, H3.out.2.2.1.base, rfl⟩)
  have hrow4 : TxtRow w4 (.slice A ks.length c) ks := (H2.out.2.2.2.1.far (p := fun t => t == 99) rfl (FarP.of H3.out.1)).far rfl hfp3
  obtain ⟨A', c', eA, hstr, hty⟩ := hrow4.slice
  injection eA with eA1 eA2 eA3
  subst eA1
  have hszs : ∀ k ∈ ks, k.size < 4000000000000 := fun k hk => by
    have h9 := HH.out.2.2.2.2.1 (L k) (H1.out.2.1.mem_iff.1 (List.mem_map_of_mem hk))
    rwa [T.L_len] at h9
  have q5 := Aside0.mk (fireTree w4 tb root ht4 hM4 A c ks hstr hty (by have := HN.out; omega) hszs)
  rw [HN.out] at q5
  have v0 : w4.cell? ⟨v, 0, none⟩ = some (.pointer (some ⟨tb, 0, none⟩)) := by rw [blk_cell (hfp _ _ _ _ HH.out.1.ver rfl)]; rfl
  have hbV : b ≠ V := by have := (Array.getElem?_eq_some_iff.1 H2.out.2.2.1.base).1; have := H3.out.2.2.2; omega
  have hob4 : w4.heap[b]? = some (.cells #[ptr V, .int .i32 1, .int .u32 0] 99 (0, 0)) := by rw [hw4]; exact set_atG H3.out.2.2.1.base 0 _
  have hov4 : w4.heap[V]? = some (.cells #[ptr tx, .int .u64 (n + 1)] 102 (0, 0)) := by rw [hw4]; exact (Below.heap_setCell _ _ _ V (Ne.symm hbV)).trans H3.out.2.1
  have H4 := Aside0.mk (And.intro ho4 (And.intro hcb (And.intro hfp (And.intro hob4 (And.intro hov4 hbV)))))
  clear hw4 ho4 hcb hfp ht4 hM4 hfp3 hrow4 hstr hty hszs eA2 eA3 hob4 hov4 hbV HW4
  unfold ptr at q5
  go_wp2_with fail
  go_at_call 67
  refine q5.out.mono ?_
  rintro e w5 ⟨rfl, hsh⟩
  have hob5 := hsh.farP _ _ _ _ H4.out.2.2.2.1 rfl
  have hov5 := hsh.farP _ _ _ _ H4.out.2.2.2.2.1 rfl
  have H5 := Aside0.mk (And.intro hsh (And.intro hob5 hov5))
  clear hsh hob5 hov5 v0 q5
  go_wp2_with fail
  refine leaves_cons (f := 66) (args := #[.pointer (some ⟨b, 1, none⟩)]) (by simp) (by simp [go_sem]) ?_
  refine (unlock_deferred ⟨b, 1, none⟩ _ w5 (by rw [blk_cell H5.out.2.1]; rfl) (blk_frozen H5.out.2.1 1)).mono ?_
  rintro e u' w6 ⟨rfl, rfl, rfl⟩
  have hdone : Done w (w5.setCell ⟨b, 1, none⟩ (.int .i32 0)) b x tb tx n root D (fireAll w4 root ks).2 := by
    have ho6 : Only (fun k => k = b) w5 (w5.setCell ⟨b, 1, none⟩ (.int .i32 0)) := (Only.refl (fun k => k = b) w5).put b 1 (.inl rfl) _
    have hc6 : CellsOf w5 (fun t => t == 99) (fun k => k = b) := fun k e => by rw [e]; exact ⟨_, _, _, H5.out.2.1, rfl⟩
    refine ⟨⟨V, set_atG H5.out.2.1 1 _, (Below.heap_setCell _ _ _ V (Ne.symm H4.out.2.2.2.2.2)).trans H5.out.2.2⟩, ?_, fun c d hw => ?_, ⟨w4, ks, fun c d hw => H4.out.1.watch H4.out.2.1 rfl hw, H1.out.2.1, rfl⟩, fun B h1 h2 h3 h4 => ?_, ?_⟩
    · have f1 : FarP tAll w w4 := H4.out.2.2.1.mono (fun t h => by unfold tAll at h; unfold tXB; rw [Bool.or_eq_false_iff] at h; exact h.1)
      have f2 : FarP tAll w4 w5 := H5.out.1.farP.mono (fun t h => by unfold tAll at h; rw [Bool.or_eq_false_iff] at h; exact h.2)
      have f3 : FarP tAll w5 (w5.setCell ⟨b, 1, none⟩ (.int .i32 0)) := (ho6.farP hc6).mono (fun t h => by unfold tAll at h; rw [Bool.or_eq_false_iff, Bool.or_eq_false_iff] at h; exact h.1.2)
      exact (f1.trans f2).trans f3
    · have h5 := H5.out.1.watch c d (H4.out.1.watch H4.out.2.1 rfl hw)
      exact ⟨_, ho6.watch hc6 rfl h5⟩
    · have b1 := H4.out.1.below B h1 (fun k _ e => by rcases e with e | e <;> omega)
      have b2 := H5.out.1.below B (Nat.le_trans h1 H4.out.1.size) (fun c d _ hS => by
        obtain ⟨m, hm1, hm2⟩ := fireAll_mks w4 root ks c hS
        rw [← hm2]
        exact h4 m hm1)
      exact (b1.trans b2).trans (ho6.below B (Nat.le_trans (Nat.le_trans h1 H4.out.1.size) H5.out.1.size) (fun k _ e => by omega))
    · exact Nat.le_trans (Nat.le_trans H4.out.1.size H5.out.1.size) ho6.size
  simp [Leaves, settle, results, Tryz.results30, go_sem]
  exact hdone
end Go.Proofs.YtjhgknagmiekeaaGreat.G
set_option linter.unusedVariables false
set_option linter.unusedSimpArgs false
namespace Go.Proofs.YtjhgknagmiekeaaGreat.G
open Go.RowKit Go.Lib Go.Proofs Go.Conc Go.Maps
open Go.Proofs.YtjhgknagmiekeaaGreatW.PrintWords hiding Kept
open Go.Proofs.YtjhgknagmiekeaaGreatW.PrintLast
open Go.Proofs.YtjhgknagmiekeaaGreat.T (Nd NdAt ptr Tr L All valT wasV Lf Strs delN)
theorem delM (w : World) (tb : Nat) (root : Nd) (h : Tr w tb root) (k : ByteArray) (hk : k.size < 4000000000000) (hs : (All root).length < 3999999999999) :
    Calls Tryz.prog 25 #[ptr tb, .string k] w fun e w' => ∃ tb' root', e = .returned (wasV tb' (valT root (L k))) ∧ Tr w' tb' root' ∧ (∀ r, valT root' r = if r = L k then none else valT root r) ∧ (All root').length ≤ (All root).length ∧ (∀ m ∈ mks root', m ∈ mks root ∨ ∃ c, m = ptr (c + 1) ∧ w.heap.size ≤ c ∧ WatchAt w' (c + 1) c false) ∧ Below w.heap.size w w' := by
  cases e : T.findT root (L k) with
  | none =>
    refine (T.treeDelete_none w tb root _ k h.at_ h.fine hk e).mono ?_
    rintro e' w' ⟨rfl, rfl⟩
    refine ⟨tb, root, by unfold valT; rw [e]; rfl, h, fun r => ?_, Nat.le_refl _, fun m hm => .inl hm, Below.refl _ _⟩
    split
    · rename_i hr; subst hr; unfold valT; rw [e]; rfl
    · rfl
  | some l =>
    obtain ⟨v, hv⟩ := h.vals _ l e
    have hpos : 0 < (All root).length := by
      have := (T.mem_all h.fine.toGood _ l).2 e
      exact List.length_pos_of_mem this
    refine (T.treeDelete_some w tb root _ k l v h.at_ h.fine hk (by omega) (by omega) e hv).mono ?_
    rintro e' w' ⟨tb', m, ns, rfl, h1, h2, h3, h4, hB⟩
    obtain ⟨f1, f2, f3⟩ := T.fine_del h.fine k l ns h2
    have hl := T.len_del h.fine k l ns h2
    refine ⟨tb', m, ?_, ⟨by rw [hl]; exact h1, f1, fun r l' e' => ?_⟩, T.valT_del h.fine k l ns h2, by omega, fun x hx => ?_, hB⟩
    · unfold valT; rw [e]; show _ = Ending.returned (.tuple #[ptr tb', l.val, .bool true]); rw [hv]
    · rw [f3] at e'
      split at e'
      · cases e'
      · exact h.vals r l' e'
    · rcases mks_del k.size k (Nat.le_refl _) root m ns l h2 x hx with h7 | ⟨j, h7⟩
      · exact .inl h7
      · obtain ⟨c, e1, e2, e3, e4⟩ := h4.mark j
        exact .inr ⟨c, h7.trans e1, e2, e4, e3⟩
attribute [local go_sem] Oper.semAt_some
set_option maxRecDepth 100000 in
set_option maxHeartbeats 1600000 in
theorem txnAbort (w : World) (x b v tb tx mb : Nat) (n : Int) (hb : BaseAt w b v tb n true) (hx : TxnAt w x b tx mb false) :
    Calls Tryz.prog 29 #[ptr x] w fun e w' => e = .returned (.int .i64 0) ∧ BaseAt w' b v tb n false ∧ Only (fun k => k = x ∨ k = b) w w' := by
  have x3 : w.cell? ⟨x, 3, none⟩ = some (.bool false) := by rw [blk_cell hx]; rfl
  have x0 : w.cell? ⟨x, 0, none⟩ = some (ptr b) := by rw [blk_cell hx]; rfl
  have f3 : w.frozen? ⟨x, 3, none⟩ = false := blk_frozen hx 3
  have hbx : b ≠ x := fun e => by
    have h1 := hb.base
    rw [e, hx] at h1
    cases h1
  have hvx : v ≠ x := fun e => by
    have h1 := hb.ver
    rw [e, hx] at h1
    cases h1
  obtain ⟨W, eW⟩ : ∃ W, w.setCell ⟨x, 3, none⟩ (.bool true) = W := ⟨_, rfl⟩
  have hb1 : BaseAt W b v tb n true := by rw [← eW]; exact hb.move (Below.heap_setCell _ _ _ b hbx) (Below.heap_setCell _ _ _ v hvx)
  have ho1 : Only (fun k => k = x) w W := by rw [← eW]; exact (Only.refl (fun k => k = x) w).put x 3 (.inl rfl) _
  have hx1 : TxnAt W x b tx mb true := by rw [← eW]; exact set_atG hx 3 _
  have q1 := Aside0.mk (unlock_held ⟨b, 1, none⟩ W (by rw [blk_cell hb1.base]; rfl) (blk_frozen hb1.base 1))
  have c0 : W.cell? ⟨x, 0, none⟩ = some (ptr b) := by rw [blk_cell hx1]; rfl
  have H := Aside0.mk (And.intro hb1 (And.intro ho1 hvx))
  have HE := Aside0.mk eW
  clear hb hx hb1 ho1 hbx hvx eW hx1
  unfold ptr at x0 c0 ⊢
  go_enter Tryz.func29, Tryz.ntmps29
  go_upto_region 4 with fail
  rw [HE.out]
  go_wp2_with fail
  go_at_call 66
  refine q1.out.mono ?_
  rintro e w2 ⟨rfl, hw2⟩
  subst hw2
  go_wp2_with fail
  go_ret
  refine ⟨rfl, ⟨set_atG H.out.1.base 1 _, (Below.heap_setCell _ _ _ v (Ne.symm H.out.1.ne)).trans H.out.1.ver⟩, (H.out.2.1.trans ((Only.refl (fun k => k = b) W).put b 1 (.inl rfl) _))⟩
set_option maxRecDepth 100000 in
set_option maxHeartbeats 4000000 in
theorem txnCommit0 (w : World) (x b v tb tx mb nn : Nat) (n : Int) (D : DataW Unit) (hb : BaseAt w b v tb n true) (hx : TxnAt w x b tx mb false) (hm : Tch w mb nn D) (hnn : nn < 1000000000000) (he : strKeys D = []) :
    Calls Tryz.prog 30 #[ptr x] w fun e w' => e = .returned (.tuple #[.int .i64 0, .int .i64 0]) ∧ BaseAt w' b v tb n false ∧ Only (fun k => k = x ∨ k = b) w w' := by
  have q1 := Aside0.mk (txnTouched w x b tx mb nn D hx hm hnn)
  have x3 : w.cell? ⟨x, 3, none⟩ = some (.bool false) := by rw [blk_cell hx]; rfl
  have hbx : b ≠ x := fun e => by
    have h1 := hb.base
    rw [e, hx] at h1
    cases h1
  have hvx : v ≠ x := fun e => by
    have h1 := hb.ver
    rw [e, hx] at h1
    cases h1
  have HH := Aside0.mk (And.intro hb (And.intro hx (And.intro he (And.intro hbx hvx))))
  have hnot : ∀ (x : Bool) (w : World), (Op.unary .not (.bool x)).run Tryz.prog w = .ok (.bool (!x)) w := fun _ _ => rfl
  clear hb hx hm hnn he hbx hvx
  unfold ptr at q1 ⊢
  go_enter_defers Tryz.func30, Tryz.ntmps30
  go_wp2_with fail
  go_at_call 50
  refine q1.out.mono ?_
  rintro e w1 ⟨vv, ks, rfl, hrow, hperm, hb1⟩
  have hx1 := (hb1.block _ (Array.getElem?_eq_some_iff.1 HH.out.2.1).1).trans HH.out.2.1
  have hbA := HH.out.1.move (hb1.block _ (Array.getElem?_eq_some_iff.1 HH.out.1.base).1) (hb1.block _ (Array.getElem?_eq_some_iff.1 HH.out.1.ver).1)
  have y0 : w1.cell? ⟨x, 0, none⟩ = some (.pointer (some ⟨b, 0, none⟩)) := by rw [blk_cell hx1]; rfl
  have y3 : w1.cell? ⟨x, 3, none⟩ = some (.bool false) := by rw [blk_cell hx1]; rfl
  have g3 : w1.frozen? ⟨x, 3, none⟩ = false := blk_frozen hx1 3
  obtain ⟨A, c, rfl, hstr, hty⟩ := hrow.slice
  have hkl : ks = [] := by
    have h9 := hperm.length_eq
    rw [HH.out.2.2.1, List.length_map, List.length_nil] at h9
    exact List.length_eq_zero_iff.1 h9
  subst hkl
  have H1 := Aside0.mk (And.intro hbA (And.intro hb1 hx1))
  clear hrow hperm hb1 hx1 hstr hty q1 x3 hbA
  rw [List.length_nil]
  go_upto_region 5 with fail
  obtain ⟨W2, eW2⟩ : ∃ W2, w1.setCell ⟨x, 3, none⟩ (.bool true) = W2 := ⟨_, rfl⟩
  have ho2 : Only (fun k => k = x) w W2 := by rw [← eW2]; exact (Only.of (p := fun k => k = x) H1.out.2.1).put x 3 (.inl rfl) _
  have hb2 : BaseAt W2 b v tb n true := by rw [← eW2]; exact H1.out.1.move (Below.heap_setCell _ _ _ b HH.out.2.2.2.1) (Below.heap_setCell _ _ _ v HH.out.2.2.2.2)
  have hx2 : TxnAt W2 x b tx mb true := by rw [← eW2]; exact set_atG H1.out.2.2 3 _
  have x0 : W2.cell? ⟨x, 0, none⟩ = some (.pointer (some ⟨b, 0, none⟩)) := by rw [blk_cell hx2]; rfl
  have H2 := Aside0.mk (And.intro ho2 hb2)
  rw [eW2]
  clear y0 y3 g3 ho2 hb2 eW2 hx2
  go_wp2_with fail
  refine leaves_cons (f := 66) (args := #[.pointer (some ⟨b, 1, none⟩)]) (by simp) (by simp [go_sem]) ?_
  refine (unlock_deferred ⟨b, 1, none⟩ _ W2 (by rw [blk_cell H2.out.2.base]; rfl) (blk_frozen H2.out.2.base 1)).mono ?_
  rintro e u' w6 ⟨rfl, rfl, rfl⟩
  have hend : BaseAt (W2.setCell ⟨b, 1, none⟩ (.int .i32 0)) b v tb n false ∧ Only (fun k => k = x ∨ k = b) w (W2.setCell ⟨b, 1, none⟩ (.int .i32 0)) :=
    ⟨⟨set_atG H2.out.2.base 1 _, (Below.heap_setCell _ _ _ v (Ne.symm H2.out.2.ne)).trans H2.out.2.ver⟩, H2.out.1.trans ((Only.refl (fun k => k = b) W2).put b 1 (.inl rfl) _)⟩
  simp [Leaves, settle, results, Tryz.results30, go_sem]
  exact hend
set_option maxRecDepth 100000 in
set_option maxHeartbeats 4000000 in
theorem txnDrop (w : World) (x b tx mb nn : Nat) (D : DataW Unit) (root : Nd) (hx : TxnAt w x b tx mb false) (hm : Tch w mb nn D) (hnn : nn < 1000000000000) (ht : Tr w tx root) (k : ByteArray) (hk : k.size < 4000000000000) (hs : (All root).length < 3999999999999) :
    Calls Tryz.prog 24 #[ptr x, .string k] w fun e w' => ∃ (old : Int) (tx' : Nat) (root' : Nd) (D' : DataW Unit), e = .returned (.tuple #[.int .i64 old, .bool (valT root (L k)).isSome, .int .i64 0]) ∧ TxnAt w' x b tx' mb false ∧ Tch w' mb (nn + 1) D' ∧ (D' = D ∧ valT root (L k) = none ∨ valT root (L k) ≠ none ∧ ∃ c : Int, D' = D.put (.string k.data.toList) (.lit (.int .i64 c))) ∧ Tr w' tx' root' ∧ (∀ r, valT root' r = if r = L k then none else valT root r) ∧ (All root').length ≤ (All root).length ∧
      (∀ m ∈ mks root', m ∈ mks root ∨ ∃ c, m = ptr (c + 1) ∧ w.heap.size ≤ c ∧ WatchAt w' (c + 1) c false) ∧ Only (fun j => j = mb ∨ j = x) w w' := by
  have x1 : w.cell? ⟨x, 1, none⟩ = some (ptr tx) := by rw [blk_cell hx]; rfl
  have x3 : w.cell? ⟨x, 3, none⟩ = some (.bool false) := by rw [blk_cell hx]; rfl
  have q1 := Aside0.mk (delM w tx root ht k hk hs)
  have HW := Aside0.mk (fun tb => was_form ht.vals tb (L k))
  have HX := Aside0.mk (And.intro hx (And.intro hm ht))
  have HK := Aside0.mk (keyOf_str k hk)
  have hmx : Aside0 (mb ≠ x) := ⟨fun e => by
    obtain ⟨es, cl, h1, -⟩ := hm
    rw [e, hx] at h1
    cases h1⟩
  obtain ⟨o, eo⟩ : ∃ o, valT root (L k) = o := ⟨_, rfl⟩
  rw [eo] at q1 HW
  have HEO := Aside0.mk eo
  rw [eo]
  obtain ⟨had, ehad⟩ : ∃ h, o.isSome = h := ⟨_, rfl⟩
  have hiff : had = true ↔ o ≠ none := by rw [← ehad]; cases o <;> simp
  rw [ehad]
  have HHAD := Aside0.mk ehad
  clear hx hm ht eo ehad
  unfold ptr at x1 q1 ⊢
  go_enter Tryz.func24, Tryz.ntmps24
  go_wp2_with fail
  go_at_call 25
  refine q1.out.mono ?_
  rintro e w2 ⟨tb', root', rfl, ht2, hv2, hl2, hm2, hb2⟩
  have hwas : ∃ (ox : Int), wasV tb' o = .tuple #[ptr tb', .int .i64 ox, .bool had] := by
    rw [← HHAD.out]
    obtain ⟨ox, oh, eab⟩ := HW.out tb'
    cases o with
    | none => exact ⟨0, rfl⟩
    | some v => exact ⟨ox, by
        have h9 : Value.tuple #[ptr tb', v, .bool true] = .tuple #[ptr tb', .int .i64 ox, .bool oh] := eab
        show Value.tuple #[ptr tb', v, .bool true] = _
        injection h9 with h9
        have h10 := congrArg (fun a => a[1]?) h9
        have h11 : some v = some (.int .i64 ox) := h10
        injection h11 with h11
        rw [h11]
        rfl⟩
  obtain ⟨ox, eab⟩ := hwas
  rw [eab]
  have hx2 := (hb2.block _ (Array.getElem?_eq_some_iff.1 HX.out.1).1).trans HX.out.1
  have hm2' : Tch w2 mb nn D := by
    exact HX.out.2.1.kept (row := none) ⟨hb2.os, hb2.tape, hb2.output, hb2.size, fun i hi _ => hb2.block i hi⟩ (by simp)
  have f1 : w2.frozen? ⟨x, 1, none⟩ = false := blk_frozen hx2 1
  have z1 : w2.cell? ⟨x, 1, none⟩ = some (.pointer (some ⟨tx, 0, none⟩)) := by rw [blk_cell hx2]; rfl
  obtain ⟨W3, eW3⟩ : ∃ W3, w2.setCell ⟨x, 1, none⟩ (ptr tb') = W3 := ⟨_, rfl⟩
  have hfar : ∀ j, j ≠ x → W3.heap[j]? = w2.heap[j]? := fun j hj => by rw [← eW3]; exact Below.heap_setCell _ _ _ j hj
  have hx3 : TxnAt W3 x b tb' mb false := by rw [← eW3]; exact set_atG hx2 1 _
  have hm3 : Tch W3 mb nn D := by rw [← eW3]; exact hm2'.setCell (a := ⟨x, 1, none⟩) hmx.out _
  have hfp : FarP (fun t => t == 117) w2 W3 := fun j cs t fr hj ht => (hfar j (fun e => by
    subst e
    rw [hx2] at hj
    injection hj with e1
    injection e1 with _ e2 _
    rw [← e2] at ht
    cases ht)).trans hj
  have ht3 := hfp.tr rfl rfl rfl rfl ht2
  have ho3 : Only (fun j => j = x) w W3 := by rw [← eW3]; exact (Only.of (p := fun j => j = x) hb2).put x 1 (.inl rfl) _
  have hmk3 : ∀ m ∈ mks root', m ∈ mks root ∨ ∃ c, m = ptr (c + 1) ∧ w.heap.size ≤ c ∧ WatchAt W3 (c + 1) c false := fun m hm => by
    rcases hm2 m hm with h | ⟨c, h1, h2, h3⟩
    · exact .inl h
    · have hlt : x < w.heap.size := (Array.getElem?_eq_some_iff.1 HX.out.1).1
      exact .inr ⟨c, h1, h2, h3.move (hfar _ (by omega)) (hfar _ (by omega))⟩
  obtain ⟨cv, hrun, hat, hwf⟩ := World.ownsMap.lookup_int hm3 (string_keyed Tryz.underlying9) Tryz.underlying115 Tryz.underlying3 (by kernel_rfl) HK.out
  have x2 : W3.cell? ⟨x, 2, none⟩ = some (.map (some mb)) := by rw [blk_cell hx3]; rfl
  have HB := Aside0.mk (And.intro hiff (And.intro hv2 hl2))
  have H3 := Aside0.mk (And.intro hx3 (And.intro hm3 (And.intro ht3 (And.intro ho3 hmk3))))
  have HE3 := Aside0.mk eW3
  clear hb2 hx2 hm2' eab eW3 hfar hx3 hm3 hfp ht3 ho3 hmk3 ht2 hv2 hl2 hm2 q1 HW hat hiff x1 x3 HHAD
  unfold ptr at HE3 ⊢
  go_upto_region 6 with fail
  rw [HE3.out]
  clear f1 z1
  cases had with
  | false =>
    go_wp2_with fail
    go_ret3
    refine ⟨ox, tb', root', D, rfl, H3.out.1, H3.out.2.1.mono (Nat.le_succ _), .inl ⟨rfl, ?_⟩, H3.out.2.2.1, HB.out.2.1, HB.out.2.2, H3.out.2.2.2.2, H3.out.2.2.2.1.imp (fun k _ h => .inr h)⟩
    by_cases h9 : o = none
    · exact h9
    · exact absurd (HB.out.1.2 h9) (by simp)
  | true =>
    go_wp2_with (at_mapUpdate; refine wpList_mapUpdate_own _ rfl _ _ _ 115 rfl 9 3 (string_keyed Tryz.underlying9) Tryz.underlying115 (plainElem Tryz.prog 3) mb nn D rfl H3.out.2.1 (by unfold maxLen; omega) _ _ (.string k.data.toList) rfl rfl HK.out (.lit (.int .i64 (wrap64 (cv + 1)))) [] (plainElem_int Tryz.underlying3 (RowKit.wrap64_wf _)) ?_)
    intro w4 hm4 hg4
    have ho4 := only_grown hg4
    have HM4 := Aside0.mk (And.intro hm4 ho4)
    clear hm4 hg4 ho4
    go_wp2_with fail
    go_ret3
    have hmap : ∀ (j : Nat) (cs : Array Value) (t : TypeId) (fr : Nat × Nat), W3.heap[j]? = some (.cells cs t fr) → j ≠ mb := fun j cs t fr hj e => by
      obtain ⟨es, cl, h1, -⟩ := H3.out.2.1
      rw [e, h1] at hj
      cases hj
    have hfp4 : FarP (fun _ => false) W3 w4 := fun j cs t fr hj _ => HM4.out.2.at hj (hmap j cs t fr hj)
    refine ⟨ox, tb', root', _, rfl, HM4.out.2.at H3.out.1 (fun e => hmx.out e.symm), HM4.out.1, .inr ⟨HB.out.1.1 (by first | rfl | trivial), _, rfl⟩, hfp4.tr rfl rfl rfl rfl H3.out.2.2.1, HB.out.2.1, HB.out.2.2, fun m hm => ?_, (H3.out.2.2.2.1.trans HM4.out.2).imp (fun k _ h => h.symm)⟩
    rcases H3.out.2.2.2.2 m hm with h | ⟨c, h1, h2, h3⟩
    · exact .inl h
    · refine .inr ⟨c, h1, h2, ⟨hfp4 _ _ _ _ h3.obj rfl, HM4.out.2.far c (Array.getElem?_eq_some_iff.1 h3.ch).1 (fun e => ?_) |>.trans h3.ch⟩⟩
      obtain ⟨es, cl, h9, -⟩ := H3.out.2.1
      have h10 := h3.ch
      rw [e, h9] at h10
      cases h10
end Go.Proofs.YtjhgknagmiekeaaGreat.G
set_option linter.unusedVariables false
set_option linter.unusedSimpArgs false
namespace Go.Proofs.YtjhgknagmiekeaaGreat.G
open Go.RowKit Go.Lib Go.Proofs Go.Conc Go.Maps
open Go.Proofs.YtjhgknagmiekeaaGreatW.PrintWords hiding Kept
open Go.Proofs.YtjhgknagmiekeaaGreatW.PrintLast
open Go.Proofs.YtjhgknagmiekeaaGreat.T (Nd NdAt ptr Tr L All valT wasV Lf Strs delN)
theorem mem_insertD {H : Type} (x y : Lit × DataW H) : ∀ l, y ∈ DataW.insert x l ↔ y = x ∨ y ∈ l
  | [] => by simp [DataW.insert]
  | z :: r => by
    rw [DataW.insert]
    split
    · simp
    · rw [List.mem_cons, mem_insertD x y r, List.mem_cons]
      constructor
      · rintro (h | h | h)
        · exact .inr (.inl h)
        · exact .inl h
        · exact .inr (.inr h)
      · rintro (h | h | h)
        · exact .inr (.inl h)
        · exact .inl h
        · exact .inr (.inr h)
theorem keys_put {H : Type} (es : List (Lit × DataW H)) (hk : ∀ p ∈ es, ∃ x, p.1 = .string x) (s : List UInt8) (d : DataW H) (t : List UInt8) : t ∈ strKeys ((DataW.map es).put (.string s) d) ↔ t = s ∨ t ∈ strKeys (DataW.map es) := by
  rw [DataW.put_eq]
  show t ∈ (ChangeMaps.putKey _ _ _).map _ ↔ _ ∨ t ∈ es.map _
  unfold ChangeMaps.putKey
  constructor
  · intro h
    obtain ⟨p, hp, e⟩ := List.mem_map.1 h
    rcases (mem_insertD _ _ _).1 hp with h1 | h1
    · left; rw [← e, h1]; rfl
    · right; exact List.mem_map.2 ⟨p, (List.mem_filter.1 h1).1, e⟩
  · rintro (h | h)
    · exact List.mem_map.2 ⟨_, (mem_insertD _ _ _).2 (.inl rfl), h.symm⟩
    · by_cases hts : t = s
      · exact List.mem_map.2 ⟨_, (mem_insertD _ _ _).2 (.inl rfl), hts.symm⟩
      · obtain ⟨p, hp, e⟩ := List.mem_map.1 h
        refine List.mem_map.2 ⟨p, (mem_insertD _ _ _).2 (.inr (List.mem_filter.2 ⟨hp, ?_⟩)), e⟩
        obtain ⟨x, hx⟩ := hk p hp
        rw [hx] at e
        have : x ≠ s := fun e2 => hts (by rw [← e, ← e2]; rfl)
        unfold ChangeMaps.notKey
        rw [hx]
        simp [Lit.sameKey, this]
theorem Tch.keys {w : World} {mb n : Nat} {D : DataW Unit} (h : Tch w mb n D) (s t : List UInt8) (d : DataW Unit) : t ∈ strKeys (D.put (.string s) d) ↔ t = s ∨ t ∈ strKeys D := by
  obtain ⟨es, rfl, hk⟩ := World.ownsMap.keysOf h
  exact keys_put es (fun p hp => by
    obtain ⟨v, hv⟩ := hk p hp
    obtain ⟨x, -, hx, -⟩ := Maps.keyOf_str Tryz.underlying9 hv
    exact ⟨x, hx⟩) s d t
structure Chg where
  drop : Bool
  key : ByteArray
  val : Int
def ChAt (w : World) (A : Option Addr) (cs : List Chg) : Prop := ∀ i (h : i < cs.length), ∃ ad, A = some ad ∧ w.cell? (ad.add (i * 3)) = some (.bool cs[i].drop) ∧ w.cell? (ad.add (i * 3 + 1)) = some (.string cs[i].key) ∧ w.cell? (ad.add (i * 3 + 2)) = some (.int .i64 cs[i].val)
theorem ChAt.keep {w w' : World} {A : Option Addr} {l : List Chg} (h : ChAt w A l) (k : T.Kept w w') : ChAt w' A l := fun i hi => by
  obtain ⟨ad, e, h0, h1, h2⟩ := h i hi
  exact ⟨ad, e, k.cell h0, k.cell h1, k.cell h2⟩
def stepV (f : List UInt8 → Option Value) (c : Chg) : List UInt8 → Option Value := fun r => if r = L c.key then (if c.drop then none else some (.int .i64 c.val)) else f r
def runV (f : List UInt8 → Option Value) (cs : List Chg) : List UInt8 → Option Value := cs.foldl stepV f
def tchOne (f : List UInt8 → Option Value) (c : Chg) : Bool := !c.drop || (f (L c.key)).isSome
def tchd : (List UInt8 → Option Value) → List Chg → Bool
  | _, [] => false
  | f, c :: r => tchOne f c || tchd (stepV f c) r
theorem tchd_snoc : ∀ (l : List Chg) (f : List UInt8 → Option Value) (c : Chg), tchd f (l ++ [c]) = (tchd f l || tchOne (runV f l) c)
  | [], f, c => by simp [tchd, runV]
  | x :: r, f, c => by
    show (tchOne f x || tchd (stepV f x) (r ++ [c])) = _
    rw [tchd_snoc r]
    show _ = ((tchOne f x || tchd (stepV f x) r) || tchOne (runV (stepV f x) r) c)
    rw [Bool.or_assoc]
theorem runV_snoc (l : List Chg) (f : List UInt8 → Option Value) (c : Chg) : runV f (l ++ [c]) = stepV (runV f l) c := by
  unfold runV
  rw [List.foldl_append]
  rfl
theorem step_idle {f : List UInt8 → Option Value} {c : Chg} (h : tchOne f c = false) : stepV f c = f := by
  unfold tchOne at h
  rw [Bool.or_eq_false_iff] at h
  funext r
  unfold stepV
  split
  · rename_i e
    have h1 : c.drop = true := by cases h2 : c.drop with | true => rfl | false => rw [h2] at h; cases h.1
    rw [h1, if_pos rfl]
    have h2 := h.2
    rw [← e] at h2
    cases h3 : f r with
    | none => rfl
    | some v => rw [h3] at h2; cases h2
  · rfl
theorem run_idle : ∀ (l : List Chg) (f : List UInt8 → Option Value), tchd f l = false → runV f l = f
  | [], f, _ => rfl
  | c :: r, f, h => by
    have h1 : (tchOne f c || tchd (stepV f c) r) = false := h
    rw [Bool.or_eq_false_iff] at h1
    show runV (stepV f c) r = f
    rw [run_idle r _ h1.2, step_idle h1.1]
def nOf (com : Bool) (f : List UInt8 → Option Value) (cs : List Chg) (n : Int) : Int := if com && tchd f cs then n + 1 else n
def vOf (com : Bool) (f : List UInt8 → Option Value) (cs : List Chg) : List UInt8 → Option Value := if com then runV f cs else f
theorem txn_far {w w' : World} {x b tx mb nn : Nat} {D : DataW Unit} {over : Bool} (hx : TxnAt w x b tx mb over) (hm : Tch w mb nn D) (h : Only (fun j => j = mb ∨ j = x) w w') : FarP (fun t => t == 117) w w' := fun j cs t fr hj ht => h.at hj (fun e => by
  rcases e with e | e
  · obtain ⟨es, cl, h1, -⟩ := hm
    rw [e, h1] at hj
    cases hj
  · rw [e, hx] at hj
    injection hj with e1
    injection e1 with _ e2 _
    rw [← e2] at ht
    cases ht)
theorem txn_watch {w w' : World} {x b tx mb nn : Nat} {D : DataW Unit} {over : Bool} (hx : TxnAt w x b tx mb over) (hm : Tch w mb nn D) (h : Only (fun j => j = mb ∨ j = x) w w') {c : Nat} {d : Bool} (hw : WatchAt w (c + 1) c d) : WatchAt w' (c + 1) c d :=
  ⟨txn_far hx hm h _ _ _ _ hw.obj rfl, h.at hw.ch (fun e => by
    have h2 := hw.ch
    rcases e with e | e
    · obtain ⟨es, cl, h1, -⟩ := hm
      rw [e, h1] at h2
      cases h2
    · rw [e, hx] at h2
      cases h2)⟩
theorem Mks.belowG {w w' : World} {n : Nd} (hb : Below w.heap.size w w') (h : Mks w n) : Mks w' n := fun m hm => (h m hm).imp (fun c d h9 => ⟨d, h9.move (hb.block _ (Array.getElem?_eq_some_iff.1 h9.obj).1) (hb.block _ (Array.getElem?_eq_some_iff.1 h9.ch).1)⟩)
structure Opened (w : World) (b v tb x tx mb nn : Nat) (n : Int) (root cur : Nd) (D : DataW Unit) : Prop where
  base : BaseAt w b v tb n true
  txn : TxnAt w x b tx mb false
  tch : Tch w mb nn D
  tr : Tr w tb root
  own : Tr w tx cur
  mkd : Mks w root
  mkc : Mks w cur
theorem Opened.below {w w' : World} {b v tb x tx mb nn : Nat} {n : Int} {root cur : Nd} {D : DataW Unit} (h : Opened w b v tb x tx mb nn n root cur D) (hb : Below w.heap.size w w') : Opened w' b v tb x tx mb nn n root cur D :=
  ⟨h.base.move (hb.block _ (Array.getElem?_eq_some_iff.1 h.base.base).1) (hb.block _ (Array.getElem?_eq_some_iff.1 h.base.ver).1), (hb.block _ (Array.getElem?_eq_some_iff.1 h.txn).1).trans h.txn, h.tch.kept (row := none) ⟨hb.os, hb.tape, hb.output, hb.size, fun i hi _ => hb.block i hi⟩ (by simp), h.tr.keep (T.Kept.of hb), h.own.keep (T.Kept.of hb), h.mkd.belowG hb, h.mkc.belowG hb⟩
theorem Opened.step {w w' : World} {b v tb x tx mb nn tx' nn' : Nat} {n : Int} {root cur cur' : Nd} {D D' : DataW Unit} (h : Opened w b v tb x tx mb nn n root cur D) (ho : Only (fun j => j = mb ∨ j = x) w w') (hx : TxnAt w' x b tx' mb false) (hm : Tch w' mb nn' D') (ht : Tr w' tx' cur') (hk : ∀ m ∈ mks cur', m ∈ mks cur ∨ ∃ c, m = ptr (c + 1) ∧ w.heap.size ≤ c ∧ WatchAt w' (c + 1) c false) : Opened w' b v tb x tx' mb nn' n root cur' D' := by
  have hf := txn_far h.txn h.tch ho
  have hb : BaseAt w' b v tb n true := ⟨hf _ _ _ _ h.base.base rfl, hf _ _ _ _ h.base.ver rfl⟩
  have hw : ∀ c d, WatchAt w (c + 1) c d → ∃ d', WatchAt w' (c + 1) c d' := fun c d h9 => ⟨d, txn_watch h.txn h.tch ho h9⟩
  refine ⟨hb, hx, hm, hf.tr rfl rfl rfl rfl h.tr, ht, fun m hm => (h.mkd m hm).imp hw, fun m hm => ?_⟩
  rcases hk m hm with h9 | ⟨c, h1, h2, h3⟩
  · exact (h.mkc m h9).imp hw
  · exact ⟨c, false, h1, h3⟩
structure After (w w' : World) (b : Nat) (root root' : Nd) (n' : Int) : Prop where
  base : ∃ v' tb', BaseAt w' b v' tb' n' false ∧ Tr w' tb' root'
  mkd : Mks w' root'
  far : FarP tAll w w'
  watch : ∀ c d, WatchAt w (c + 1) c d → ∃ d', WatchAt w' (c + 1) c d'
  below : ∀ B, B ≤ w.heap.size → B ≤ b → (∀ m ∈ mks root, B ≤ chOf m) → Below B w w' ∧ ∀ m ∈ mks root', B ≤ chOf m
  size : w.heap.size ≤ w'.heap.size
end Go.Proofs.YtjhgknagmiekeaaGreat.G
set_option linter.unusedVariables false
set_option linter.unusedSimpArgs false
namespace Go.Proofs.YtjhgknagmiekeaaGreat.G
open Go.RowKit Go.Lib Go.Proofs Go.Conc Go.Maps
open Go.Proofs.YtjhgknagmiekeaaGreatW.PrintWords hiding Kept
open Go.Proofs.YtjhgknagmiekeaaGreatW.PrintLast
open Go.Proofs.YtjhgknagmiekeaaGreat.T (Nd NdAt ptr Tr L All valT wasV Lf Strs delN)
attribute [local go_sem] Oper.semAt_some
set_option maxRecDepth 100000 in
set_option maxHeartbeats 8000000 in
theorem doneC (w : World) (b v tb : Nat) (n : Int) (root : Nd) (hb : BaseAt w b v tb n false) (ht : Tr w tb root) (hM : Mks w root) (A : Option Addr) (c : Nat) (cs : List Chg)
    (hR : ∀ W, FarP tAll w W → (∀ B, B ≤ w.heap.size → B ≤ b → Below B w W) → ChAt W A cs) (hk : ∀ c ∈ cs, c.key.size < 4000000000000) (hlen : cs.length < 1000000000) (hs : (All root).length + cs.length < 3999999999999) (hn0 : 0 ≤ n) (hn1 : n < 1000000000000) (com : Bool) :
    Calls Tryz.prog 10 #[ptr b, .slice A cs.length c, .bool com] w fun e w' => e = .returned (.bool true) ∧ ∃ root' n', After w w' b root root' n' ∧ (All root').length ≤ (All root).length + cs.length ∧ (∀ r, valT root' r = vOf com (valT root) cs r) ∧ n' = nOf com (valT root) cs n := by
  have q1 := Aside0.mk (beginFree w b v tb n hb)
  have hcb : Aside0 (CellsOf w tXB (fun k => k = b)) := ⟨fun k e => by rw [e]; exact ⟨_, _, _, hb.base, rfl⟩⟩
  have HH := Aside0.mk (And.intro hb (And.intro ht hM))
  have HR := Aside0.mk hR
  have HK := Aside0.mk hk
  have hbl : b < w.heap.size := (Array.getElem?_eq_some_iff.1 hb.base).1
  have HS := Aside0.mk (And.intro hs (And.intro hn0 (And.intro hn1 hbl)))
  obtain ⟨N, eN⟩ : ∃ N, cs.length = N := ⟨_, rfl⟩
  have HN := Aside0.mk eN
  have hN : N < 1000000000 := by omega
  rw [eN]
  clear hb ht hM hR hk hlen hs hn0 hn1 hbl eN
  unfold ptr at q1 ⊢
  go_enter Tryz.func10, Tryz.ntmps10
  go_wp2_with fail
  go_at_call 18
  refine q1.out.mono ?_
  rintro e w2 ⟨x, mb, rfl, hb2, hx2, hm2, hxs, hms, hmx, ho2⟩
  have hf2 := ho2.farP hcb.out
  have ht2 : Tr w2 tb root := hf2.tr rfl rfl rfl rfl HH.out.2.1
  have hM2 : Mks w2 root := fun m hm => (HH.out.2.2 m hm).imp (fun c d h9 => ⟨d, ho2.watch hcb.out rfl h9⟩)
  have HO2 : Aside0 (Opened w2 b v tb x tb mb 0 n root root (.map [])) := ⟨⟨hb2, hx2, hm2, ht2, ht2, hM2, hM2⟩⟩
  have HX := Aside0.mk (And.intro hxs hms)
  have HB2 := Aside0.mk ho2
  clear hb2 hx2 hm2 hxs hms hmx ho2 hf2 ht2 hM2 q1
  go_wp2_with fail
  go_loopg [24] (N + 1) (fun kq v24 W => ∃ (i tx : Nat) (cur : Nd) (D : DataW Unit), v24 = .int .i64 (i : Int) ∧ Aside0 (i + kq = N + 1 ∧ i ≤ N) ∧ Aside0 (Opened W b v tb x tx mb i n root cur D) ∧ Aside0 ((∀ r, valT cur r = runV (valT root) (cs.take i) r) ∧ (All cur).length ≤ (All root).length + i ∧ (∀ s ∈ strKeys D, ∃ c ∈ cs, s = L c.key) ∧ (strKeys D = [] ↔ tchd (valT root) (cs.take i) = false) ∧ (∀ m ∈ mks cur, m ∈ mks root ∨ w.heap.size ≤ chOf m)) ∧ Aside0 (Only (fun k => k = b) w W))
  case atStart => exact ⟨0, tb, root, _, rfl, ⟨by omega⟩, HO2, ⟨fun r => rfl, Nat.le_refl _, fun s hs => (by cases hs), ⟨fun _ => rfl, fun _ => rfl⟩, fun m hm => .inl hm⟩, HB2⟩
  case round =>
    obtain ⟨i, tx, cur, D, rfl, HI, HO, HV, HW⟩ := hrel
    by_cases hi : i < N
    · have hi' : i < cs.length := by rw [HN.out]; exact hi
      have hbw : ∀ B, B ≤ w.heap.size → B ≤ b → Below B w wr := fun B h1 h2 => HW.out.below B h1 (fun k _ e => by rw [e]; exact h2)
      obtain ⟨ad, ea, k0, k1, k2⟩ := HR.out wr ((HW.out.farP hcb.out).mono (fun t h => by unfold tAll at h; unfold tXB; rw [Bool.or_eq_false_iff] at h; exact h.1)) hbw i hi'
      obtain ⟨o, eo⟩ : ∃ o, cs[i] = o := ⟨_, rfl⟩
      have hmem : o ∈ cs := by rw [← eo]; exact List.getElem_mem _
      have hks : Aside0 (o.key.size < 4000000000000) := ⟨HK.out o hmem⟩
      have htk : cs.take (i + 1) = cs.take i ++ [o] := by rw [List.take_add_one, List.getElem?_eq_getElem hi', eo]; rfl
      have HT := Aside0.mk (And.intro htk hmem)
      rw [eo] at k0 k1 k2
      clear eo hi' hbw htk hmem
      obtain ⟨dr, key, val⟩ := o
      dsimp only at k0 k1 k2 hks
      have k1' : wr.cell? ⟨(ad.add (i * 3)).block, (ad.add (i * 3)).off + 1, none⟩ = some (.string key) := by rw [← add_field _ _ 1 (by omega)]; exact k1
      have k2' : wr.cell? ⟨(ad.add (i * 3)).block, (ad.add (i * 3)).off + 2, none⟩ = some (.int .i64 val) := by rw [← add_field _ _ 2 (by omega)]; exact k2
      subst ea
      clear k1 k2
      have hin : (i : Int) < (N : Int) := by omega
      go_upto_region 7 with fail
      obtain ⟨G, eG⟩ : ∃ G, wr.heap.size = G := ⟨_, rfl⟩
      obtain ⟨W4, eW4⟩ : ∃ W4, wr.alloc (Obj.cells #[.bool dr, .string key, .int .i64 val] 30) = W4 := ⟨_, rfl⟩
      have HW4 : Aside0 (W4.heap[G]? = some (.cells #[.bool dr, .string key, .int .i64 val] 30 (0, 0)) ∧ Below wr.heap.size wr W4) := ⟨by rw [← eW4, ← eG]; exact World.alloc_heap_new wr _, by rw [← eW4]; exact (Below.refl _ wr).alloc (Nat.le_refl _) _⟩
      rw [eW4, eG]
      have hb4 := HW4.out.1
      have b0 : W4.cell? ⟨G, 0, none⟩ = some (.bool dr) := by rw [blk_cell hb4]; rfl
      have b1 : W4.cell? ⟨G, 1, none⟩ = some (.string key) := by rw [blk_cell hb4]; rfl
      have b2 : W4.cell? ⟨G, 2, none⟩ = some (.int .i64 val) := by rw [blk_cell hb4]; rfl
      have HO4 := Aside0.mk (HO.out.below HW4.out.2)
      have HW5 : Aside0 (Only (fun k => k = b) w W4) := ⟨(HW.out.trans (Only.of (p := fun _ => False) HW4.out.2)).imp (fun k _ h => h.elim id (fun e => e.elim))⟩
      have hsz : (All cur).length < 3999999999999 := by have := HV.out.2.1; have := HS.out.1; have := HN.out; omega
      have hnd : i < 1000000000000 := by omega
      have q2 := Aside0.mk (fun h : dr = true => txnDrop W4 x b tx mb i D cur HO4.out.txn HO4.out.tch hnd HO4.out.own key hks.out hsz)
      have q3 := Aside0.mk (fun h : dr = false => txnSet W4 x b tx mb i D cur HO4.out.txn HO4.out.tch hnd HO4.out.own key val hks.out hsz)
      clear hb4 eW4 eG k0 k1' k2' hin hsz hnd
      unfold ptr at q2 q3
      cases dr with
      | true =>
        go_wp2_with fail
        go_at_call 24
        refine (q2.out (by first | rfl | trivial)).mono ?_
        rintro e w5 ⟨old, tx', cur', D', rfl, hx5, hm5, hD5, ht5, hv5, hl5, hk5, ho5⟩
        have HO5 := Aside0.mk (HO4.out.step ho5 hx5 hm5 ht5 hk5)
        have hmx : w.heap.size ≤ mb ∧ w.heap.size ≤ x := ⟨HX.out.2, HX.out.1⟩
        have HW6 : Aside0 (Only (fun k => k = b) w w5) := ⟨(HW5.out.trans ho5).imp (fun k hk h => by rcases h with h | h | h; exact h; exact absurd hk (by omega); exact absurd hk (by omega))⟩
        have HV5 : Aside0 ((∀ r, valT cur' r = runV (valT root) (cs.take (i + 1)) r) ∧ (All cur').length ≤ (All root).length + (i + 1) ∧ (∀ s ∈ strKeys D', ∃ c ∈ cs, s = L c.key) ∧ (strKeys D' = [] ↔ tchd (valT root) (cs.take (i + 1)) = false) ∧ (∀ m ∈ mks cur', m ∈ mks root ∨ w.heap.size ≤ chOf m)) := by
          have hf : valT cur = runV (valT root) (cs.take i) := funext HV.out.1
          have ht1 : tchd (valT root) (cs.take (i + 1)) = (tchd (valT root) (cs.take i) || (valT cur (L key)).isSome) := by rw [HT.out.1, tchd_snoc, ← hf]; rfl
          refine ⟨fun r => ?_, by have := HV.out.2.1; omega, fun s hs => ?_, ?_, fun m hm => ?_⟩
          · rw [HT.out.1, runV_snoc, ← hf, hv5]; rfl
          · rcases hD5 with ⟨e, -⟩ | ⟨-, cc, e⟩
            · rw [e] at hs; exact HV.out.2.2.1 s hs
            · rw [e] at hs
              rcases (HO4.out.tch.keys _ _ _).1 hs with h | h
              · exact ⟨_, HT.out.2, h⟩
              · exact HV.out.2.2.1 s h
          · rw [ht1]
            rcases hD5 with ⟨e, hno⟩ | ⟨hyes, cc, e⟩
            · rw [e, hno]; simpa using HV.out.2.2.2.1
            · have h1 : (valT cur (L key)).isSome = true := by cases h : valT cur (L key) with | none => exact absurd h hyes | some _ => rfl
              rw [h1, Bool.or_true]
              refine ⟨fun h => ?_, fun h => by cases h⟩
              have h2 := (HO4.out.tch.keys key.data.toList key.data.toList (.lit (.int .i64 cc))).2 (.inl rfl)
              rw [← e, h] at h2
              cases h2
          · rcases hk5 m hm with h | ⟨c, h1, h2, h3⟩
            · exact HV.out.2.2.2.2 m h
            · right; rw [h1]; exact Nat.le_trans HW5.out.size h2
        clear hx5 hm5 hD5 ht5 hv5 hl5 hk5 ho5 b0 b1 b2 q2 q3 hmx
        go_wp2_with fail
        go_roundg (N - i)
        case measure => have := HI.out; omega
        case rel => exact ⟨i + 1, tx', cur', D', by simp, ⟨by have := HI.out; omega⟩, HO5, HV5, HW6⟩
      | false =>
        go_wp2_with fail
        go_at_call 26
        refine (q3.out (by first | rfl | trivial)).mono ?_
        rintro e w5 ⟨old, had, tx', cur', cc, rfl, hx5, hm5, ht5, hv5, hl5, hk5, ho5⟩
        have HO5 := Aside0.mk (HO4.out.step ho5 hx5 hm5 ht5 hk5)
        have hmx : w.heap.size ≤ mb ∧ w.heap.size ≤ x := ⟨HX.out.2, HX.out.1⟩
        have HW6 : Aside0 (Only (fun k => k = b) w w5) := ⟨(HW5.out.trans ho5).imp (fun k hk h => by rcases h with h | h | h; exact h; exact absurd hk (by omega); exact absurd hk (by omega))⟩
        have HV5 : Aside0 ((∀ r, valT cur' r = runV (valT root) (cs.take (i + 1)) r) ∧ (All cur').length ≤ (All root).length + (i + 1) ∧ (∀ s ∈ strKeys (D.put (.string key.data.toList) (.lit (.int .i64 cc))), ∃ c ∈ cs, s = L c.key) ∧ (strKeys (D.put (.string key.data.toList) (.lit (.int .i64 cc))) = [] ↔ tchd (valT root) (cs.take (i + 1)) = false) ∧ (∀ m ∈ mks cur', m ∈ mks root ∨ w.heap.size ≤ chOf m)) := by
          have hf : valT cur = runV (valT root) (cs.take i) := funext HV.out.1
          have ht1 : tchd (valT root) (cs.take (i + 1)) = true := by rw [HT.out.1, tchd_snoc]; show (_ || (true || _)) = true; rw [Bool.true_or, Bool.or_true]
          refine ⟨fun r => ?_, by have := HV.out.2.1; omega, fun s hs => ?_, ?_, fun m hm => ?_⟩
          · rw [HT.out.1, runV_snoc, ← hf, hv5]; rfl
          · rcases (HO4.out.tch.keys _ _ _).1 hs with h | h
            · exact ⟨_, HT.out.2, h⟩
            · exact HV.out.2.2.1 s h
          · rw [ht1]
            refine ⟨fun h => ?_, fun h => by cases h⟩
            have h2 := (HO4.out.tch.keys key.data.toList key.data.toList (.lit (.int .i64 cc))).2 (.inl rfl)
            rw [h] at h2
            cases h2
          · rcases hk5 m hm with h | ⟨c, h1, h2, h3⟩
            · exact HV.out.2.2.2.2 m h
            · right; rw [h1]; exact Nat.le_trans HW5.out.size h2
        clear hx5 hm5 ht5 hv5 hl5 hk5 ho5 b0 b1 b2 q2 q3 hmx
        go_wp2_with fail
        go_roundg (N - i)
        case measure => have := HI.out; omega
        case rel => exact ⟨i + 1, tx', cur', _, by simp, ⟨by have := HI.out; omega⟩, HO5, HV5, HW6⟩
    · have hin : i = N := by have := HI.out; omega
      subst hin
      have htake : cs.take i = cs := by rw [← HN.out]; exact List.take_length
      have HT := Aside0.mk htake
      clear htake
      have hfw := (HW.out.farP hcb.out).mono (q := tAll) (fun t h => by unfold tAll at h; unfold tXB; rw [Bool.or_eq_false_iff] at h; exact h.1)
      have hww : ∀ c d, WatchAt w (c + 1) c d → WatchAt wr (c + 1) c d := fun c d h9 => HW.out.watch hcb.out rfl h9
      have HFW := Aside0.mk (And.intro hfw hww)
      have hbel : ∀ B, B ≤ w.heap.size → B ≤ b → Below B w wr := fun B h1 h2 => HW.out.below B h1 (fun k _ e => by rw [e]; exact h2)
      have HBEL := Aside0.mk hbel
      have hnd : i < 1000000000000 := by omega
      clear hfw hww hbel
      cases com with
      | false =>
        have q4 := Aside0.mk (txnAbort wr x b v tb tx mb n HO.out.base HO.out.txn)
        unfold ptr at q4
        go_wp2_with fail
        go_at_call 29
        refine q4.out.mono ?_
        rintro e w5 ⟨rfl, hb5, ho5⟩
        have hcx : CellsOf wr tXB (fun k => k = x ∨ k = b) := fun k e => by
          rcases e with e | e
          · rw [e]; exact ⟨_, _, _, HO.out.txn, rfl⟩
          · rw [e]; exact ⟨_, _, _, HO.out.base.base, rfl⟩
        have hf5 := ho5.farP hcx
        have H5 : Aside0 (After w w5 b root root n) := by
          refine ⟨⟨v, tb, hb5, hf5.tr rfl rfl rfl rfl HO.out.tr⟩, fun m hm => (HO.out.mkd m hm).imp (fun c d h9 => ⟨d, ho5.watch hcx rfl h9⟩), HFW.out.1.trans (hf5.mono (fun t h => by unfold tAll at h; unfold tXB; rw [Bool.or_eq_false_iff] at h; exact h.1)), fun c d h9 => ⟨d, ho5.watch hcx rfl (HFW.out.2 c d h9)⟩, fun B h1 h2 h3 => ⟨(HBEL.out B h1 h2).trans (ho5.below B (Nat.le_trans h1 HW.out.size) (fun k _ e => by
            rcases e with e | e
            · rw [e]; exact Nat.le_trans h1 HX.out.1
            · rw [e]; exact h2)), h3⟩, Nat.le_trans HW.out.size ho5.size⟩
        clear hb5 ho5 hcx hf5
        go_wp2_with fail
        go_ret
        refine ⟨rfl, root, n, H5.out, by omega, fun r => rfl, rfl⟩
      | true =>
        obtain ⟨tt, ett⟩ : ∃ tt, tchd (valT root) cs = tt := ⟨_, rfl⟩
        have HTT := Aside0.mk ett
        clear ett
        cases tt with
        | false =>
          have hke : strKeys D = [] := HV.out.2.2.2.1.2 (by rw [HT.out]; exact HTT.out)
          have q4 := Aside0.mk (txnCommit0 wr x b v tb tx mb i n D HO.out.base HO.out.txn HO.out.tch hnd hke)
          clear hke
          unfold ptr at q4
          go_wp2_with fail
          go_at_call 30
          refine q4.out.mono ?_
          rintro e w5 ⟨rfl, hb5, ho5⟩
          have hcx : CellsOf wr tXB (fun k => k = x ∨ k = b) := fun k e => by
            rcases e with e | e
            · rw [e]; exact ⟨_, _, _, HO.out.txn, rfl⟩
            · rw [e]; exact ⟨_, _, _, HO.out.base.base, rfl⟩
          have hf5 := ho5.farP hcx
          have H5 : Aside0 (After w w5 b root root n) := by
            refine ⟨⟨v, tb, hb5, hf5.tr rfl rfl rfl rfl HO.out.tr⟩, fun m hm => (HO.out.mkd m hm).imp (fun c d h9 => ⟨d, ho5.watch hcx rfl h9⟩), HFW.out.1.trans (hf5.mono (fun t h => by unfold tAll at h; unfold tXB; rw [Bool.or_eq_false_iff] at h; exact h.1)), fun c d h9 => ⟨d, ho5.watch hcx rfl (HFW.out.2 c d h9)⟩, fun B h1 h2 h3 => ⟨(HBEL.out B h1 h2).trans (ho5.below B (Nat.le_trans h1 HW.out.size) (fun k _ e => by
              rcases e with e | e
              · rw [e]; exact Nat.le_trans h1 HX.out.1
              · rw [e]; exact h2)), h3⟩, Nat.le_trans HW.out.size ho5.size⟩
          clear hb5 ho5 hcx hf5
          go_wp2_with fail
          go_ret
          refine ⟨rfl, root, n, H5.out, by omega, fun r => ?_, by unfold nOf; rw [HTT.out]; rfl⟩
          show _ = runV (valT root) cs r
          rw [run_idle _ _ HTT.out]
        | true =>
          have hkne : strKeys D ≠ [] := fun h => by
            have h9 := HV.out.2.2.2.1.1 h
            rw [HT.out, HTT.out] at h9
            cases h9
          have hkd : ∀ s ∈ strKeys D, s.length < 4000000000000 := fun s hs => by
            obtain ⟨c, hc, e⟩ := HV.out.2.2.1 s hs
            rw [e, T.L_len]
            exact HK.out c hc
          have q4 := Aside0.mk (txnCommit wr x b v tb tx mb i n D root HO.out.base HO.out.txn HO.out.tch hnd HO.out.tr HO.out.mkd hkd hkne HS.out.2.1 HS.out.2.2.1)
          clear hkne hkd
          unfold ptr at q4
          go_wp2_with fail
          go_at_call 30
          refine q4.out.mono ?_
          rintro e w5 ⟨cnt, rfl, hD⟩
          obtain ⟨v5, hb5⟩ := hD.base
          have H5 : Aside0 (After w w5 b root cur (n + 1)) := by
            refine ⟨⟨v5, tx, hb5, hD.far.tr rfl rfl rfl rfl HO.out.own⟩, fun m hm => (HO.out.mkc m hm).imp hD.watch, HFW.out.1.trans hD.far, fun c d h9 => hD.watch c d (HFW.out.2 c d h9), fun B h1 h2 h3 => ⟨(HBEL.out B h1 h2).trans (hD.below B (Nat.le_trans h1 HW.out.size) (Nat.le_trans h1 HX.out.1) h2 h3), fun m hm => ?_⟩, Nat.le_trans HW.out.size hD.size⟩
            rcases HV.out.2.2.2.2 m hm with h | h
            · exact h3 m h
            · exact Nat.le_trans h1 h
          clear hb5 hD
          go_wp2_with fail
          go_ret
          refine ⟨rfl, cur, n + 1, H5.out, HV.out.2.1, fun r => ?_, by unfold nOf; rw [HTT.out]; rfl⟩
          rw [HV.out.1 r, HT.out]
          rfl
end Go.Proofs.YtjhgknagmiekeaaGreat.G
