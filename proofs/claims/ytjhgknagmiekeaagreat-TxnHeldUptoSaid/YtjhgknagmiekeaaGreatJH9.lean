/- joined: H7 H6 H8 -/
import Derived.Test.YtjhgknagmiekeaaGreatJH7
import Derived.Test.YtjhgknagmiekeaaGreatJH8
import Derived.Sort.LoopGhostIn
import Derived.Test.YtjhgknagmiekeaaGreatRows
import Derived.Deep.Slices
import Derived.Deep.Fields
import Derived.ChangeSame
import Derived.SizedLaws
import Derived.ProofKit
set_option linter.unusedVariables false
set_option linter.unusedSimpArgs false
namespace Go.Proofs.YtjhgknagmiekeaaGreat.D
open Go.RowKit Go.Lib Go.Proofs Go.Shelf
open Go.Proofs.YtjhgknagmiekeaaGreat.T Go.Proofs.YtjhgknagmiekeaaGreat.V Go.Proofs.YtjhgknagmiekeaaGreat.N
open Go.Proofs.YtjhgknagmiekeaaGreat.G (FarP FarP.of FarD tAll Chg ChAt BaseAt mks newOwn doneOwn base_tree txnAlive nOf vOf runV)
open Go.Proofs.YtjhgknagmiekeaaGreat.VOA (below_drewA)
open Go.Proofs.YtjhgknagmiekeaaGreatW.PrintWords hiding blk_cell Kept
attribute [local go_sem] Oper.semAt_some
abbrev BOwn := Go.Proofs.YtjhgknagmiekeaaGreat.G.Own
theorem finish {K : Act → World → Prop} {l : List Value} {d : List Deferred} {W : World} (h : ∀ l', l' = l → K { tmps := l'.toArray, defers := d } W) : K { tmps := l.toArray, defers := d } W := h l rfl
def ComsAt (w : World) (A : Option Addr) (cls : List (List Chg)) : Prop := ∀ i (h : i < cls.length), ∃ ad Ai ci, A = some ad ∧ w.cell? (ad.add i) = some (.slice Ai cls[i].length ci) ∧ ChAt w Ai cls[i]
theorem ComsAt.keep {w w' : World} {A : Option Addr} {l : List (List Chg)} (h : ComsAt w A l) (k : Kept w w') : ComsAt w' A l := fun i hi => by
  obtain ⟨ad, Ai, ci, e, h0, h1⟩ := h i hi
  exact ⟨ad, Ai, ci, e, k.cell h0, h1.keep k⟩
def tot (cls : List (List Chg)) : Nat := (cls.map List.length).sum
theorem tot_le : ∀ (cls : List (List Chg)) (i : Nat) (h : i < cls.length), tot (cls.take i) + cls[i].length ≤ tot cls
  | x :: r, 0, h => by simp [tot]
  | x :: r, i + 1, h => by
    have := tot_le r i (by simpa using h)
    simp only [tot, List.take_succ_cons, List.map_cons, List.sum_cons, List.getElem_cons_succ] at this ⊢
    omega
theorem tot_take : ∀ (cls : List (List Chg)) (i : Nat) (h : i < cls.length), tot (cls.take (i + 1)) = tot (cls.take i) + cls[i].length
  | x :: r, 0, h => by simp [tot]
  | x :: r, i + 1, h => by
    have := tot_take r i (by simpa using h)
    simp only [tot, List.take_succ_cons, List.map_cons, List.sum_cons, List.getElem_cons_succ] at this ⊢
    omega
theorem funcNil (fn : Fn) (a c : Array Value) (w : World) : Sem.run Tryz.prog (binOp BinOp.eql 39 (.func fn a c) .nilFunc) w = .ok (.bool false) w := by kernel_rfl
structure Rec where
  tb : Nat
  root : Nd
  A : Option Addr
  c : Nat
  row : List (ByteArray × Int)
structure HeldOk (W : World) (r : Rec) : Prop where
  tr : Tr W r.tb r.root
  len : r.row.length = (All r.root).length
  few : r.row.length < 200000000
  vals : ∀ x ∈ r.row, valT r.root (L x.1) = some (.int .i64 x.2)
  cells : W.ownsRow 0 30 3 (.slice r.A r.row.length r.c) r.row.length (rowc r.row)
theorem HeldOk.far {q : TypeId → Bool} {W W' : World} {r : Rec} (h : HeldOk W r) (hf : FarP q W W') (h30 : q 30 = false) (h1 : q 106 = false) (h2 : q 134 = false) (h3 : q 145 = false) (h4 : q 108 = false) : HeldOk W' r :=
  ⟨hf.tr h1 h2 h3 h4 h.tr, h.len, h.few, h.vals, own_farRow h.cells hf h30⟩
theorem HeldOk.below {W W' : World} {r : Rec} (h : HeldOk W r) (hb : Below W.heap.size W W') : HeldOk W' r := h.far (q := fun _ => false) (FarP.of hb) rfl rfl rfl rfl rfl
structure Rows_ (W : World) (B : Nat) (vT vS : Value) (rs : List Rec) : Prop where
  rT : W.ownsRow B 36 1 vT rs.length (rs.map fun r => ptr r.tb)
  rS : W.ownsRow B 31 1 vS rs.length (rs.map fun r => .slice r.A r.row.length r.c)
  all : ∀ r ∈ rs, HeldOk W r
theorem Rows_.below {W W' : World} {B : Nat} {vT vS : Value} {rs : List Rec} (h : Rows_ W B vT vS rs) (hb : Below W.heap.size W W') : Rows_ W' B vT vS rs :=
  ⟨own_farRow h.rT (FarP.of (p := fun _ => false) hb) rfl, own_farRow h.rS (FarP.of (p := fun _ => false) hb) rfl, fun r hr => (h.all r hr).below hb⟩
theorem Rows_.done {W W' : World} {B : Nat} {vT vS : Value} {rs : List Rec} (h : Rows_ W B vT vS rs) (hf : FarP tAll W W') : Rows_ W' B vT vS rs :=
  ⟨own_farRow h.rT hf rfl, own_farRow h.rS hf rfl, fun r hr => (h.all r hr).far hf rfl rfl rfl rfl rfl⟩
theorem info30 : (Tryz.prog.info? 30).map (fun i => (i.zero, i.size, i.bytes)) = some (some (.agg #[.bool false, .string ⟨#[]⟩, .int .i64 0]), 3, 32) := by kernel_rfl
theorem info31 : (Tryz.prog.info? 31).map (fun i => (i.zero, i.size, i.bytes)) = some (some (.slice none 0 0), 1, 24) := by kernel_rfl
theorem info36 : (Tryz.prog.info? 36).map (fun i => (i.zero, i.size, i.bytes)) = some (some (.pointer none), 1, 8) := by kernel_rfl
theorem own_app {w w1 : World} {B : Nat} {e : TypeId} {size : Nat} {v : Value} {n : Nat} {xs : List Value} {tmp : Obj} (h : w.ownsRow B e size v n xs) (hg : (w.alloc tmp).grownBy w1 v.ownBlock) {k : Nat} {o : Obj} (hk : w.heap[k]? = some o) (hne : ∀ cs, o ≠ .cells cs e (0, 0)) : w1.heap[k]? = some o := by
  have hlt := (Array.getElem?_eq_some_iff.1 hk).1
  refine (hg.block k (by rw [World.size_alloc]; omega) (fun e9 => ?_)).trans ((Below.heap_alloc _ _ _ (by omega)).trans hk)
  obtain ⟨cs', hc⟩ := own_typed h k e9.symm
  rw [hc] at hk
  injection hk with e1
  exact hne cs' e1.symm
theorem own_some {w : World} {B : Nat} {e : TypeId} {size : Nat} {A : Option Addr} {n c : Nat} {xs : List Value} (h : w.ownsRow B e size (.slice A n c) n xs) (hn : 0 < n) : ∃ g, A = some ⟨g, 0, none⟩ := by
  rcases h.2 with ⟨_, h2⟩ | ⟨g, cap, cur, h1, _⟩
  · omega
  · injection h1 with h1; exact ⟨g, h1⟩
theorem BOwn.app {w w1 : World} {B B' : Nat} {e : TypeId} {size : Nat} {v : Value} {n : Nat} {xs : List Value} {tmp : Obj} {b : Nat} {root : Nd} {m : Int} (o : BOwn B' w b root m) (h : w.ownsRow B e size v n xs) (hg : (w.alloc tmp).grownBy w1 v.ownBlock) (he : e = 36 ∨ e = 31) : BOwn B' w1 b root m := by
  have hne : ∀ t, t = 99 ∨ t = 102 ∨ t = 153 → e ≠ t := fun t ht h => by subst h; rcases he with h | h <;> subst h <;> rcases ht with h | h | h <;> cases h
  have hap : ∀ (k : Nat) (cs : Array Value) (t : TypeId), t = 99 ∨ t = 102 ∨ t = 153 → w.heap[k]? = some (.cells cs t (0, 0)) → w1.heap[k]? = some (.cells cs t (0, 0)) := fun k cs t ht hk => own_app h hg hk (fun cs' e1 => by injection e1 with _ e2 _; exact hne t ht e2.symm)
  obtain ⟨v', tb', h1, h2⟩ := o.base
  have hf := own_farP h hg
  refine ⟨⟨v', tb', ⟨hap _ _ _ (.inl rfl) h1.base, hap _ _ _ (.inr (.inl rfl)) h1.ver⟩, ?_⟩, fun x hx => ?_, o.low⟩
  · rcases he with rfl | rfl
    · exact hf.tr rfl rfl rfl rfl h2
    · exact hf.tr rfl rfl rfl rfl h2
  · exact (o.mkd x hx).imp (fun c d h9 => ⟨d, hap _ _ _ (.inr (.inr rfl)) h9.obj, own_app h hg h9.ch (fun cs e1 => by cases e1)⟩)
theorem own_form {w : World} {B : Nat} {e : TypeId} {size : Nat} {v : Value} {n : Nat} {xs : List Value} (h : w.ownsRow B e size v n xs) : ∃ A c, v = .slice A n c := by
  rcases h.2 with ⟨rfl, h2⟩ | ⟨g, cap, cur, rfl, _⟩
  · exact ⟨none, 0, by rw [h2]⟩
  · exact ⟨_, _, rfl⟩
theorem HeldOk.app {w w1 : World} {B : Nat} {e : TypeId} {size : Nat} {v : Value} {n : Nat} {xs : List Value} {tmp : Obj} {r : Rec} (o : HeldOk w r) (h : w.ownsRow B e size v n xs) (hg : (w.alloc tmp).grownBy w1 v.ownBlock) (he : e = 36 ∨ e = 31) : HeldOk w1 r := by
  have hf := own_farP h hg
  rcases he with rfl | rfl
  · exact o.far hf rfl rfl rfl rfl rfl
  · exact o.far hf rfl rfl rfl rfl rfl
set_option maxRecDepth 100000 in
set_option maxHeartbeats 16000000 in
theorem heldLaw (A : Option Addr) (c : Nat) (cls : List (List Chg)) (w : World) (hA : ComsAt w A cls) (hl : cls.length < 100000000) (ht : tot cls < 100000000) (hk : ∀ l ∈ cls, ∀ c ∈ l, c.key.size < 4000000000000) :
    Calls Tryz.prog 4 #[.slice A cls.length c] w fun e w' => e = .returned (.bool true) ∧ Below w.heap.size w w' := by
  refine callsIn_wide.1 (show CallsIn Fence.wide 9 Tryz.prog 4 _ w _ from ?_)
  have q1 := Aside0.mk (txnAlive w)
  have qf := Aside0.mk (fun t w1 => show CallsIn Fence.wide 8 Tryz.prog 13 _ w1 _ from callsIn_wide.2 (allC t w1))
  have HA := Aside0.mk hA
  have HK := Aside0.mk hk
  have HT := Aside0.mk ht
  obtain ⟨N, eN⟩ : ∃ N, cls.length = N := ⟨_, rfl⟩
  have HN := Aside0.mk eN
  have hN : N < 100000000 := by omega
  have hnf := funcNil
  rw [eN]
  clear hA hl hk ht eN
  unfold ptr at qf
  refine callsIn_of_wp_marks Tryz.func4 rfl trivial ?_ rfl
  simp only [Tryz.ntmps4, List.size_toArray, List.length_cons, List.length_nil, Nat.reduceAdd, Nat.reduceSub, Array.replicate_succ, Array.replicate_zero, List.push_toArray, List.append_toArray, List.nil_append, List.cons_append]
  gi_wp2_with (refine ⟨trivial, ?_⟩; gi_at_call 8; refine (callsIn_wide.2 q1.out).mono ?_; rintro e w1 ⟨rfl, hb1⟩; have HB1 := Aside0.mk hb1; clear hb1)
  have q2 := Aside0.mk (newOwn w1)
  unfold ptr at q2
  gi_wp2_with (refine ⟨trivial, ?_⟩; gi_at_call 9; refine (callsIn_wide.2 q2.out).mono ?_; rintro e w2 ⟨b, root0, rfl, ho2, hl2, hb2, -⟩; have HO2 := Aside0.mk (And.intro ho2 (And.intro hl2 hb2)); clear ho2 hl2 hb2)
  have HB2 : Aside0 (Below w.heap.size w w2) := ⟨belowAt HB1.out HO2.out.2.2⟩
  have HO0 : Aside0 (BOwn w.heap.size w2 b root0 0 ∧ (All root0).length = 0) := ⟨⟨HO2.out.1.base, HO2.out.1.mkd, Nat.le_trans HB1.out.size HO2.out.1.low.1, fun m hm => Nat.le_trans HB1.out.size (HO2.out.1.low.2 m hm)⟩, HO2.out.2.1⟩
  clear q1 q2 HO2
  refine finish (fun tm0 htm0 => ?_)
  refine wpIn_loop_ghost_k (fun k a Z => ∃ (i : Nat) (n : Int) (root : Nd) (vT vS : Value) (rs : List Rec) (u : Nat → Value) (ds : List Nat), a = { tmps := #[.slice A N c, u 1, .bool false, .pointer (some ⟨b, 0, none⟩), vT, vS, u 6, u 7, u 8, u 9, u 10, u 11, u 12, u 13, u 14, u 15, u 16, u 17, u 18, u 19, u 20, u 21, u 22, u 23, .slice A N c, .int .i64 (N : Int), .int .i64 (i : Int), u 27, u 28, u 29, u 30, u 31, u 32, u 33, u 34, u 35, u 36, u 37, u 38, u 39, u 40, u 41, u 42, u 43, u 44, u 45, u 46, u 47, u 48, u 49, u 50, u 51, u 52, u 53, u 54, u 55, u 56, u 57, u 58, u 59, u 60, u 61, u 62, u 63, u 64, u 65, u 66, u 67, u 68, u 69, u 70, u 71, u 72, u 73, u 74, u 75, u 76, u 77, u 78, u 79, u 80, u 81, u 82, u 83, u 84, u 85, u 86, u 87, u 88, u 89, u 90, u 91, u 92, u 93, u 94, u 95, u 96, u 97, u 98, u 99, u 100, u 101], defers := ds.map mk_ } ∧ Aside0 (i + k = N + 1 ∧ i ≤ N ∧ 0 ≤ n ∧ n ≤ i) ∧ Aside0 (BOwn w.heap.size Z b root n ∧ (All root).length ≤ tot (cls.take i)) ∧ Aside0 (Rows_ Z w.heap.size vT vS rs ∧ rs.length = i) ∧ Aside0 ((∀ D ∈ ds, Z.heap[D]? = some (.deferred (some []))) ∧ ds.Nodup ∧ ∀ D ∈ ds, w.heap.size ≤ D) ∧ Aside0 (Below w.heap.size w Z)) (N + 1)
    ⟨0, 0, root0, .slice none 0 0, .slice none 0 0, [], (fun j => tm0.getD j undef), [], (by subst htm0; rfl), ⟨by omega, by omega, by omega, by omega⟩, ⟨HO0.out.1, by rw [HO0.out.2]; exact Nat.zero_le _⟩, ⟨⟨World.ownsRow_nil _ _ _ _, World.ownsRow_nil _ _ _ _, fun r hr => by cases hr⟩, rfl⟩, ⟨by simp, by simp, by simp⟩, HB2⟩ ?_
  rintro k a Z ⟨i, n, root, vT, vS, rs, u, ds, rfl, HI, HO, HR, HM, HBz⟩ J K hJ hK
  have HJK := Aside0.mk (And.intro hJ hK)
  clear hJ hK HO0 HB2
  by_cases hi : i < N
  · have hi' : i < cls.length := by rw [HN.out]; exact hi
    obtain ⟨ad, Ai, ci, ea, k0, hch⟩ := HA.out i hi'
    obtain ⟨l, el⟩ : ∃ l, cls[i] = l := ⟨_, rfl⟩
    have hmem : l ∈ cls := by rw [← el]; exact List.getElem_mem _
    have htot : tot (cls.take i) + l.length ≤ tot cls := by rw [← el]; exact tot_le cls i hi'
    have htk : tot (cls.take (i + 1)) = tot (cls.take i) + l.length := by rw [← el]; exact tot_take cls i hi'
    rw [el] at k0 hch
    subst ea
    replace k0 := (Kept.of HBz.out).cell k0
    have hin : (i : Int) < (N : Int) := by omega
    have HTT := Aside0.mk (And.intro htot (And.intro htk hmem))
    have q3 := Aside0.mk (doneOwn w.heap.size Z HBz.out.size b n root HO.out.1 Ai ci l (fun W _ hB => hch.keep (Kept.of (HBz.out.trans hB))) (HK.out l hmem) (by have := HT.out; omega) (by have := HT.out; have := HO.out.2; omega) HI.out.2.2.1 (by have := HI.out.2.2.2; omega) true)
    clear hi' el hmem htot htk hch
    unfold ptr at q3
    gi_wp2_with (refine ⟨trivial, ?_⟩; gi_at_call 10; refine (callsIn_wide.2 q3.out).mono ?_; rintro e w3 ⟨rfl, root3, ho3, ha3, hl3, -, hb3⟩; have H3 := Aside0.mk (And.intro ho3 (And.intro ha3 (And.intro hl3 hb3))); clear ho3 ha3 hl3 hb3)
    obtain ⟨v3, tb3, hbA, htA⟩ := H3.out.1.base
    have q4 := Aside0.mk (base_tree w3 b v3 tb3 _ false hbA)
    have HT3 := Aside0.mk (And.intro hbA htA)
    clear hbA htA q3
    gi_wp2_with (refine ⟨trivial, ?_⟩; gi_at_call 12; refine (callsIn_wide.2 q4.out).mono ?_; rintro e w' ⟨rfl, hw⟩; subst hw)
    gi_wp2_with (refine ⟨trivial, ?_⟩; gi_at_call 13; refine (qf.out _ _).mono ?_; rintro e w4 ⟨bt, bs, bk, rfl, h1, h2, h3, h4⟩; have H4 := Aside0.mk (And.intro h1 (And.intro h2 (And.intro h3 h4))); clear h1 h2 h3 h4)
    obtain ⟨h1, h2, h3, h4⟩ := H4.out
    obtain ⟨Za, eZa⟩ : ∃ Za, (w4.alloc (Obj.cells #[] 30)).alloc (Obj.cells #[Value.slice (some ⟨w4.heap.size, 0, none⟩) 0 0] 31) = Za := ⟨_, rfl⟩
    have hsZ : Za.heap.size = w4.heap.size + 2 := by rw [← eZa]; simp
    have hBZ : Below w4.heap.size w4 Za := by rw [← eZa]; exact ((Below.refl _ w4).alloc (Nat.le_refl _) _).alloc (by simp) _
    have bR : Boxed Za (w4.heap.size + 1) 31 (.slice (some ⟨w4.heap.size, 0, none⟩) 0 0) := by rw [← eZa]; have := World.alloc_heap_new (w4.alloc (Obj.cells #[] 30)) (Obj.cells #[Value.slice (some ⟨w4.heap.size, 0, none⟩) 0 0] 31); rwa [World.size_alloc] at this
    have oR : Za.ownsRow w4.heap.size 30 3 (.slice (some ⟨w4.heap.size, 0, none⟩) 0 0) 0 [] := by rw [← eZa]; exact (World.ownsRow_lit (base := w4.heap.size) (e := 30) (size := 3) w4 #[] 0 (Nat.le_refl _) (by decide) (by simp)).alloc _
    have hT4 : Tr w4 tb3 root3 := HT3.out.2.keep (Kept.of h4)
    have hN3 : (All root3).length < 200000000 := by have := H3.out.2.2.1; have := HO.out.2; have := HTT.out.1; have := HT.out; omega
    obtain ⟨i0, hi0, hz0, hz1, hz2⟩ := info_parts info30
    have hml : 200000001 ≤ maxLen := by decide
    rw [eZa]
    clear eZa q4
    refine wpIn_rangeFuncO rfl (by decide) (gf := 72) (lb := #[ptr bt, ptr bs, ptr bk]) rfl trivial (enters_of Tryz.func72 (by kernel_rfl) rfl)
      (VOA.seq Za 8 (ovr (fun _ => false) (fun _ => true) ⟨#[]⟩ root3).length w4.heap.size (fun k => k = w4.heap.size + 1) w4 (Kept.of hBZ) (Nat.le_refl _) (by omega) (fun k hk e => by omega) tb3 root3 hT4 bt bs bk ⟨(Kept.of hBZ).at h1, (Kept.of hBZ).at h2, (Kept.of hBZ).at h3⟩ (Nat.le_refl _))
      (fun h k => kpT h k) (fun W o o' h hc => KpM.putObj W _ o o' (by omega) h hc) (Below.refl _ _) (fun _ => rfl)
      (fun pre W => (∃ v, Boxed W (w4.heap.size + 1) 31 v ∧ W.ownsRow w4.heap.size 30 3 v pre.length (rowc pre)) ∧ Below w4.heap.size w4 W ∧ Za.heap.size ≤ W.heap.size)
      (fun _ _ _ => False) ?hI (fun _ _ _ _ _ hs _ _ => hs) ⟨⟨_, bR, oR⟩, hBZ, Nat.le_refl _⟩ (fun (x : ByteArray × Int) a' (Y : World) => a' = { tmps := #[.slice (some ad) N c, u 1, .bool false, .pointer (some ⟨b, 0, none⟩), vT, vS, u 6, .slice Ai l.length ci, .pointer (some ⟨tb3, 0, none⟩), .func (.func 72) #[] #[.pointer (some ⟨bt, 0, none⟩), .pointer (some ⟨bs, 0, none⟩), .pointer (some ⟨bk, 0, none⟩)], .pointer (some ⟨w4.heap.size + 1, 0, none⟩), .string x.1, .int .i64 x.2, u 13, u 14, u 15, u 16, u 17, u 18, u 19, u 20, u 21, u 22, u 23, .slice (some ad) N c, .int .i64 (N : Int), .int .i64 (i : Int), .bool true, .pointer (some (ad.add i)), .slice Ai l.length ci, .pointer (some ⟨b, 0, none⟩), .slice Ai l.length ci, .bool true, .bool false, .pointer (some ⟨b, 0, none⟩), .pointer (some ⟨tb3, 0, none⟩), .pointer (some ⟨tb3, 0, none⟩), .bool false, .pointer (some ⟨tb3, 0, none⟩), .func (.func 72) #[] #[.pointer (some ⟨bt, 0, none⟩), .pointer (some ⟨bs, 0, none⟩), .pointer (some ⟨bk, 0, none⟩)], .func (.func 72) #[] #[.pointer (some ⟨bt, 0, none⟩), .pointer (some ⟨bs, 0, none⟩), .pointer (some ⟨bk, 0, none⟩)], .bool false, .slice (some ⟨w4.heap.size, 0, none⟩) 0 0, .func (.func 72) #[] #[.pointer (some ⟨bt, 0, none⟩), .pointer (some ⟨bs, 0, none⟩), .pointer (some ⟨bk, 0, none⟩)], .string x.1, .int .i64 x.2, u 46, u 47, u 48, u 49, u 50, u 51, u 52, u 53, u 54, u 55, u 56, u 57, u 58, u 59, u 60, u 61, u 62, u 63, u 64, u 65, u 66, u 67, u 68, u 69, u 70, u 71, u 72, u 73, u 74, u 75, u 76, u 77, u 78, u 79, u 80, u 81, u 82, u 83, u 84, u 85, u 86, u 87, u 88, u 89, u 90, u 91, u 92, u 93, u 94, u 95, u 96, u 97, u 98, u 99, u 100, u 101], defers := [] }) (fun x a' => ownT_pure _ (fun _ => a' = _)) ?assign ?body ?done ?stop
    case hI => exact OwnT.and (fun s X Y row hs hg hr => (ownT_all (β := Unit) (B := Za.heap.size) (fun v => OwnT.and (ownT_old (w4.heap.size + 1) (fun _ => .cells #[v] 31 (0, 0)) (by omega)) (ownT_row w4.heap.size 30 3 (by decide) v s.length (rowc s)))) () X Y row hs hg hr) (OwnT.and (ownT_below (by omega) (by omega)) (ownT_size _))
    case assign =>
      intro l' m' pre x Wa K2 hI hok hK2
      gi_wp2
      exact hK2 _ _ (KeepsU.refl _ _) (KpM.of (Below.refl _ _)) hI rfl
    case stop =>
      rintro D cd pre W _ _ h _
      exact h.elim
    case body =>
      rintro l' m' pre x a' W hl' hr0 hszW ⟨⟨v, hv, hrow⟩, hB, hW⟩ rfl hlt hok
      have hc := hv.cell
      have hol := ovr_len hT4.fine.toGood
      rw [hol] at hlt
      gi_wp2_with (gi_at_builtin; refine wpListIn_append_own _ rfl _ _ 31 rfl w4.heap.size 30 i0 (.agg #[.bool false, .string ⟨#[]⟩, .int .i64 0]) 3 32 Tryz.underlying31 hi0 hz0 hz1 hz2 rfl (by decide) _ _ _ rfl (hrow.alloc _) ⟨W.heap.size, 0, none⟩ 1 1 [.bool false, .string x.1, .int .i64 x.2] rfl rfl (cell_three_new _ _ _ _ _) (by simp [Value.oneCell']) (by omega) (by omega) (by simp; omega) ?_; intro v' w1' hown' hgrow _; obtain ⟨g', cap', rfl⟩ := ownsRow_succ hown'; obtain ⟨hv1, hv2, hr2, hk2, hb2, hkp, hlow⟩ := appended2 (n₀ := w4.heap.size) (M := fun k => k = w4.heap.size + 1) hv (by decide) (by decide) (by decide) hrow (by omega) (Nat.le_refl _) (by omega) rfl hown' hgrow; have hku := appendedU (B' := Za.heap.size) (by unfold Quiet; decide) (by omega) hv hrow hown' hgrow; have hc1 := hv1.cell; have hf1 := hv1.frozen)
      exact ⟨hku, hkp, ⟨_, hv2, by rw [List.length_append, rowc_snoc]; exact hr2⟩, hB.trans hb2, Nat.le_trans hW hb2.size⟩
    case done =>
      rintro D1 ys W5 hD1 e9 ⟨⟨v, hv, hrow⟩, hB5, hW5⟩ hK1
      obtain ⟨A', c', rfl⟩ := own_form hrow
      have hyl : ys.length = (All root3).length := by rw [e9]; exact ovr_len hT4.fine.toGood
      have hheld : HeldOk W5 ⟨tb3, root3, A', c', ys⟩ := ⟨hT4.keep (Kept.of hB5), hyl, by rw [hyl]; exact hN3, fun x hx => ovr_val hT4.fine.toGood hT4.vals (by rw [← e9]; exact hx), own_weak hrow (Nat.zero_le _)⟩
      have hb35 : Below w'.heap.size w' W5 := belowAt h4 hB5
      have HR5 : Aside0 (Rows_ W5 w.heap.size vT vS rs) := ⟨(HR.out.1.done H3.out.2.1.far).below hb35⟩
      have HO5 : Aside0 (BOwn w.heap.size W5 b root3 (nOf true (valT root) l n)) := ⟨H3.out.1.belowG hb35⟩
      have HD5 : Aside0 (∀ D ∈ ds, W5.heap[D]? = some (.deferred (some []))) := ⟨fun D hD => (Kept.of hb35).at (H3.out.2.1.defr _ _ (HM.out.1 D hD))⟩
      have HBw : Aside0 (Below w.heap.size w W5) := ⟨(HBz.out.trans H3.out.2.2.2).trans (hb35.mono (by have := (HBz.out.trans H3.out.2.2.2).size; omega))⟩
      have HH5 := Aside0.mk hheld
      have HE := Aside0.mk (And.intro hK1 (And.intro hD1 (And.intro hsZ (And.intro h4 (And.intro hyl hN3)))))
      have hrl : rs.length ≤ N := by rw [HR.out.2]; exact HI.out.2.1
      obtain ⟨j0, hj0, hy0, hy1, hy2⟩ := info_parts info36
      obtain ⟨p0, hp0, hx0, hx1, hx2⟩ := info_parts info31
      have hcB := hv.cell
      have hvB := Aside0.mk hv
      have hwB := HBw.out.size
      obtain ⟨ny, eny⟩ : ∃ ny, ys.length = ny := ⟨_, rfl⟩
      have HNY := Aside0.mk eny
      rw [eny] at hcB
      clear hrow hK1 hD1 hyl hheld hb35 hv hi0 hz0 hz1 hz2 bR oR hT4 h1 h2 h3 h4 hB5 hBZ hsZ eny
      obtain ⟨AT, cT, rfl⟩ := own_form HR5.out.rT
      obtain ⟨AS, cS, rfl⟩ := own_form HR5.out.rS
      gi_wp2_with (gi_at_builtin; refine wpListIn_append_own _ rfl _ _ 35 rfl w.heap.size 36 j0 (.pointer none) 1 8 Tryz.underlying35 hj0 hy0 hy1 hy2 rfl (by decide) _ _ _ rfl (HR5.out.rT.alloc _) ⟨W5.heap.size, 0, none⟩ 1 1 [.pointer (some ⟨tb3, 0, none⟩)] rfl rfl (cell_one_new _ _ _) (by simp [Value.oneCell']) (by omega) (by omega) (by first | omega | (simp; done) | (simp; omega)) ?_; intro v6 w6 hown6 hgrow6 _; refine Hid.out ?_)
      refine Lib.hid ?_
      have hbx6 : w6.heap[w4.heap.size + 1]? = some (.cells #[.slice A' ys.length c'] 31 (0, 0)) := own_app HR5.out.rT hgrow6 hvB.out (fun cs e => by cases e)
      have hc6 : w6.cell? ⟨w4.heap.size + 1, 0, none⟩ = some (.slice A' ny c') := by (rw [← HNY.out, blk_cell hbx6]; first | done | rfl)
      have hS6 := own_farRow HR5.out.rS (own_farP HR5.out.rT hgrow6) rfl
      have H6 := Aside0.mk (And.intro hown6 (And.intro hgrow6 hS6))
      have hb6 := own_below HR5.out.rT hwB hgrow6
      have hs6 : w.heap.size ≤ w6.heap.size := Nat.le_trans hwB hb6.size
      have HB6 := Aside0.mk hb6
      clear hown6 hgrow6 hbx6 hcB hS6 hb6 hj0 hy0 hy1 hy2
      obtain ⟨A6, c6, rfl⟩ := own_form H6.out.1
      gi_wp2_with (gi_at_builtin; refine wpListIn_append_own _ rfl _ _ 34 rfl w.heap.size 31 p0 (.slice none 0 0) 1 24 Tryz.underlying34 hp0 hx0 hx1 hx2 rfl (by decide) _ _ _ rfl (H6.out.2.2.alloc _) ⟨w6.heap.size, 0, none⟩ 1 1 [.slice A' ny c'] rfl rfl (cell_one_new _ _ _) (by simp [Value.oneCell']) (by omega) (by omega) (by first | omega | (simp; done) | (simp; omega)) ?_; intro v7 w7 hown7 hgrow7 _; refine Hid.out ?_)
      refine Lib.hid ?_
      obtain ⟨hown6, hgrow6, hS6⟩ := H6.out
      obtain ⟨A7, c7, rfl⟩ := own_form hown7
      have hT7 := own_farRow hown6 (own_farP hS6 hgrow7) rfl
      have hb7 := own_below hS6 hs6 hgrow7
      have HO7 : Aside0 (BOwn w.heap.size w7 b root3 (nOf true (valT root) l n)) := ⟨(HO5.out.app HR5.out.rT hgrow6 (.inl rfl)).app hS6 hgrow7 (.inr rfl)⟩
      have hh7 : HeldOk w7 ⟨tb3, root3, A', c', ys⟩ := (HH5.out.app HR5.out.rT hgrow6 (.inl rfl)).app hS6 hgrow7 (.inr rfl)
      have HR7 : Aside0 (Rows_ w7 w.heap.size (.slice A6 (rs.length + 1) c6) (.slice A7 (rs.length + 1) c7) (rs ++ [⟨tb3, root3, A', c', ys⟩])) := by
        refine ⟨⟨?_, ?_, fun r hr => ?_⟩⟩
        · rw [List.length_append, List.map_append]
          exact hT7
        · rw [List.length_append, List.map_append]
          have e : [Value.slice A' ny c'] = [(⟨tb3, root3, A', c', ys⟩ : Rec)].map fun r => Value.slice r.A r.row.length r.c := by rw [← HNY.out]; rfl
          rw [e] at hown7
          exact hown7
        · rcases List.mem_append.1 hr with h | h
          · exact ((HR5.out.all r h).app HR5.out.rT hgrow6 (.inl rfl)).app hS6 hgrow7 (.inr rfl)
          · rw [List.mem_singleton.1 h]; exact hh7
      have hfd : FarD W5 w7 := (own_farD HR5.out.rT hgrow6).trans (own_farD hS6 hgrow7)
      have HM7 : Aside0 ((∀ D ∈ D1 :: ds, w7.heap[D]? = some (.deferred (some []))) ∧ (D1 :: ds).Nodup ∧ ∀ D ∈ D1 :: ds, w.heap.size ≤ D) := by
        have hz : ∀ D ∈ ds, D < Z.heap.size := fun D hD => (Array.getElem?_eq_some_iff.1 (HM.out.1 D hD)).1
        have e1 := HE.out.2.1
        have e2 := HE.out.2.2.1
        have e3 := H3.out.2.1.size
        have e4 := HE.out.2.2.2.1.size
        have e5 := HBz.out.size
        refine ⟨fun D hD => ?_, List.nodup_cons.2 ⟨fun h => ?_, HM.out.2.1⟩, fun D hD => ?_⟩
        · rcases List.mem_cons.1 hD with rfl | hD
          · exact hfd _ _ HE.out.1
          · exact hfd _ _ (HD5.out D hD)
        · have := hz _ h; omega
        · rcases List.mem_cons.1 hD with rfl | hD
          · omega
          · exact HM.out.2.2 D hD
      have HB7 : Aside0 (Below w.heap.size w w7) := ⟨(HBw.out.trans HB6.out).trans hb7⟩
      have HEND : Aside0 (wrap64 ((i : Int) + 1) = ((i + 1 : Nat) : Int) ∧ k - 1 < k ∧ i + 1 + (k - 1) = N + 1 ∧ i + 1 ≤ N ∧ 0 ≤ nOf true (valT root) l n ∧ nOf true (valT root) l n ≤ ((i + 1 : Nat) : Int) ∧ (All root3).length ≤ tot (cls.take (i + 1)) ∧ (rs ++ [(⟨tb3, root3, A', c', ys⟩ : Rec)]).length = i + 1) := by
        have e1 := HI.out
        have e2 := HO.out.2
        have e3 := H3.out.2.2.1
        have e4 := HTT.out.2.1
        have e5 := HR.out.2
        have e6 : nOf true (valT root) l n = n ∨ nOf true (valT root) l n = n + 1 := by unfold nOf; split; exact .inr rfl; exact .inl rfl
        refine ⟨by unfold wrap64; omega, by omega, by omega, by omega, by omega, by omega, by omega, by rw [List.length_append, e5]; rfl⟩
      clear hown7 hgrow7 hown6 hgrow6 hS6 hT7 hb7 hh7 hfd hc6 hp0 hx0 hx1 hx2 hs6 hrl
      gi_wp2_with fail
      refine finish (fun tm1 htm1 => ?_)
      obtain ⟨f0, f1, f2, f3, f4, f5, f6, f7⟩ := HEND.out
      exact HJK.out.2 _ _ (Handed.intro (k - 1) f1 (HJK.out.1 _ _ _ ⟨i + 1, _, root3, .slice A6 (rs.length + 1) c6, .slice A7 (rs.length + 1) c7, _, (fun j => tm1.getD j undef), D1 :: ds, (by subst htm1; rfl), ⟨f2, f3, f4, f5⟩, ⟨HO7.out, f6⟩, ⟨HR7.out, f7⟩, HM7, HB7⟩))
  · have hiN : i = N := by have := HI.out; omega
    subst hiN
    obtain ⟨AT, cT, rfl⟩ := own_form HR.out.1.rT
    obtain ⟨AS, cS, rfl⟩ := own_form HR.out.1.rS
    have hrl := HR.out.2
    rw [hrl]
    gi_wp2
    have HZ : Aside0 (∀ D ∈ ds, Z.heap[D]? = some (.deferred (some []))) := ⟨HM.out.1⟩
    gi_loopg [63] (i + 1) (fun kq v63 W => ∃ j : Nat, v63 = .int .i64 (j : Int) ∧ Aside0 (j + kq = i + 1 ∧ j ≤ i) ∧ Aside0 (Below Z.heap.size Z W))
    case atStart => exact ⟨0, rfl, ⟨by omega, Nat.zero_le _⟩, ⟨Below.refl _ _⟩⟩
    case round =>
      obtain ⟨j, rfl, HJ, HW⟩ := hrel
      by_cases hj : j < i
      · have hjr : j < rs.length := by rw [hrl]; exact hj
        have hRw := HR.out.1.below HW.out
        have hT := hRw.rT
        have hS := hRw.rS
        rw [hrl] at hT hS
        obtain ⟨gT, rfl⟩ := own_some hT (by omega)
        obtain ⟨gS, rfl⟩ := own_some hS (by omega)
        obtain ⟨r, er⟩ : ∃ r, rs[j] = r := ⟨_, rfl⟩
        have hheld : HeldOk wr r := hRw.all r (by rw [← er]; exact List.getElem_mem _)
        have ct : wr.cell? ⟨gT, j, none⟩ = some (.pointer (some ⟨r.tb, 0, none⟩)) := by
          rw [hT.cellAt j (by omega), List.getElem?_map, List.getElem?_eq_getElem hjr, er]; rfl
        have cs : wr.cell? ⟨gS, j, none⟩ = some (.slice r.A r.row.length r.c) := by
          rw [hS.cellAt j (by omega), List.getElem?_map, List.getElem?_eq_getElem hjr, er]; rfl
        obtain ⟨tbr, rootr, Ar, cr, row⟩ := r
        dsimp only at ct cs
        obtain ⟨nr, enr⟩ : ∃ nr, row.length = nr := ⟨_, rfl⟩
        have hlr : (All rootr).length = nr := by rw [← enr]; exact hheld.len.symm
        have ql := Aside0.mk (fun w1 (h : Below wr.heap.size wr w1) => lenC w1 tbr rootr (hheld.tr.keep (Kept.of h)))
        rw [hlr] at ql
        rw [enr] at cs
        have HH := Aside0.mk hheld
        have HNR := Aside0.mk enr
        have HB := Aside0.mk (Below.refl wr.heap.size wr)
        have HCS := Aside0.mk cs
        have hji : (j : Int) < (i : Int) := by omega
        have hnr : nr < 200000000 := by rw [← enr]; exact hheld.few
        clear hjr hRw hT hS er hheld hlr enr
        unfold ptr at ql
        gi_wp2_with fail
        refine wpIn_wide.2 ?_
        refine Code.wp_mono NoPanic.imp ?_
        go_region_held3 (fun Y => Y.cell? ⟨gS, j, none⟩ = some (.slice Ar nr cr))
          (first | exact cs | exact (Kept.of (below_drewA HB.out)).cell HCS.out)
          (first | (go_at_call 14; refine (ql.out _ (below_drewA HB.out)).mono ?_; rintro e w0 ⟨rfl, rfl⟩))
        refine NoPanic.normal ?_
        obtain ⟨Wd, eWd⟩ : ∃ Wd, wr.drew = Wd := ⟨_, rfl⟩
        have hbd : Below wr.heap.size wr Wd := by rw [← eWd]; exact below_drewA HB.out
        have cd := (Kept.of hbd).cell HCS.out
        have HBD := Aside0.mk hbd
        rw [eWd]
        clear eWd hbd cs ct HB ql
        gi_wp2
        gi_loopg [81] (nr + 1) (fun kq v81 W2 => ∃ q : Nat, v81 = .int .i64 (q : Int) ∧ Aside0 (q + kq = nr + 1 ∧ q ≤ nr) ∧ Aside0 (Below Wd.heap.size Wd W2))
        case atStart => exact ⟨0, rfl, ⟨by omega, Nat.zero_le _⟩, ⟨Below.refl _ _⟩⟩
        case round =>
          obtain ⟨q, rfl, HQ, HW2⟩ := hrel
          by_cases hq : q < nr
          · have hqr : q < row.length := by rw [HNR.out]; exact hq
            have hh2 := (HH.out.below HBD.out).below HW2.out
            have hcl := hh2.cells
            obtain ⟨gA, egA⟩ := own_some hcl (by show 0 < row.length; omega)
            have egA' : Ar = some ⟨gA, 0, none⟩ := egA
            subst egA'
            obtain ⟨g0, g1, g2⟩ := rowc_get row q hqr
            obtain ⟨x, ex⟩ : ∃ x, row[q] = x := ⟨_, rfl⟩
            rw [ex] at g1 g2
            have a0 : wr.cell? ⟨gA, q * 3, none⟩ = some (.bool false) := by rw [hcl.cellAt (q * 3) (by show q * 3 < row.length * 3; omega)]; exact g0
            have a1 : wr.cell? ⟨gA, q * 3 + 1, none⟩ = some (.string x.1) := by rw [hcl.cellAt (q * 3 + 1) (by show q * 3 + 1 < row.length * 3; omega)]; exact g1
            have a2 : wr.cell? ⟨gA, q * 3 + 2, none⟩ = some (.int .i64 x.2) := by rw [hcl.cellAt (q * 3 + 2) (by show q * 3 + 2 < row.length * 3; omega)]; exact g2
            have hval := hh2.vals x (by rw [← ex]; exact List.getElem_mem _)
            have hks : x.1.size < 4000000000000 := by
              have := Go.Proofs.YtjhgknagmiekeaaGreat.T.key_len hh2.tr.fine (L x.1) (by rw [show valT rootr (L x.1) = _ from hval]; simp)
              rwa [L_len] at this
            have qg := Aside0.mk (fun W (h : Below wr.heap.size wr W) => getC W tbr rootr (hh2.tr.keep (Kept.of h)) x.1 hks)
            rw [show valT rootr (L x.1) = some (.int .i64 x.2) from hval] at qg
            have QG := Aside0.mk (fun W (h : Below wr.heap.size wr W) => (show Calls Tryz.prog 15 #[.pointer (some ⟨tbr, 0, none⟩), .string x.1] W fun e w' => e = .returned (.tuple #[.int .i64 x.2, .bool true]) ∧ Below W.heap.size W w' from qg.out W h))
            have hqn : (q : Int) < (nr : Int) := by omega
            have HBa := Aside0.mk ((Below.refl wr.heap.size wr).alloc (Nat.le_refl _) (.cells #[.bool false, .string x.1, .int .i64 x.2] 30))
            have HNB := Aside0.mk (World.alloc_heap_new wr (.cells #[.bool false, .string x.1, .int .i64 x.2] 30))
            clear qg hks hval hcl hh2 g0 g1 g2 ex hqr egA
            gi_wp2_with (refine ⟨trivial, ?_⟩; gi_at_call 15; refine (callsIn_wide.2 (QG.out _ HBa.out)).mono ?_; rintro e W6 ⟨rfl, hb6⟩; refine Hid.out ?_)
            refine Lib.hid ?_
            have c2 : W6.cell? ⟨wr.heap.size, 2, none⟩ = some (.int .i64 x.2) := by rw [blk_cell ((hb6.block _ (by simp)).trans HNB.out)]; rfl
            have HB6 := Aside0.mk (HBa.out.trans (hb6.mono (by simp)))
            clear hb6 a0 a1 a2 QG
            gi_wp2
            gi_roundg (nr - q)
            case measure => have := HQ.out; omega
            case rel => exact ⟨q + 1, by simp, ⟨by have := HQ.out; omega, by omega⟩, ⟨belowAt HW2.out HB6.out⟩⟩
          · have hqe : q = nr := by have := HQ.out; omega
            subst hqe
            have HWE := Aside0.mk (belowAt (belowAt HW.out HBD.out) HW2.out)
            gi_wp2
            gi_roundg (i - j)
            case measure => have := HJ.out; omega
            case rel => exact ⟨j + 1, by simp, ⟨by have := HJ.out; omega, by omega⟩, HWE⟩
      · have hje : j = i := by have := HJ.out; omega
        subst hje
        have HWE := Aside0.mk (HBz.out.trans (HW.out.mono HBz.out.size))
        have hmk : ∀ D ∈ ds, wr.heap[D]? = some (.deferred (some [])) := fun D hD => (Kept.of HW.out).at (HM.out.1 D hD)
        gi_wp2
        refine leaves_marks (b := w.heap.size) ds wr HWE.out.size hmk HM.out.2.1 HM.out.2.2 (fun W' hW' => ?_)
        exact ⟨_, results_tmp rfl _ _ _, rfl, HWE.out.trans hW'⟩
end Go.Proofs.YtjhgknagmiekeaaGreat.D
set_option linter.unusedVariables false
set_option linter.unusedSimpArgs false
namespace Go.Proofs.YtjhgknagmiekeaaGreat.R
open Go.ChangeShapes Go.WideShapes Go.Deep Go.RowKit
open Go.Proofs.YtjhgknagmiekeaaGreatW.PrintWords Go.Proofs.YtjhgknagmiekeaaGreat.G
section
variable {H : Type} {enc : TypeId × Value → H} {P : Program} {w : World} {base : Nat} {spare : Nat → Bool} {held : Bool}
theorem open_slice_fields {t e : TypeId} {fs : Array Field} {fuel : Nat} {cs : List Value} {x : DataW H × List MemPlace} (ht : P.underlying t = some (.slice e)) (he : P.underlying e = some (.struct fs))
    (hone : oneCellFields P fs = true) (hC : P.cellsOf e = fs.size) (h : DataW.trod enc P w base spare held fuel t cs = some x) :
    (cs = [.slice none 0 0] ∧ x = (.nil, [])) ∨
    ∃ (a : Addr) (len cap m : Nat) (D : Nat → DataW H) (Pl : Nat → List MemPlace), cs = [.slice (some a) len cap] ∧ base ≤ a.block ∧ len ≤ cap ∧ cap ≤ maxLen ∧ m = (if spare a.block then cap else len) ∧
      x = (.slice ((List.range len).map D) ((List.range (m - len)).map fun j => D (len + j)), MemPlace.row a (m * fs.size) ++ (List.range m).flatMap Pl) ∧
      ∀ i, i < m → ∃ (ys : List (DataW H × List MemPlace)) (n : Nat), D i = .agg (ys.map (·.1)) ∧ Pl i = ys.flatMap (·.2) ∧ ys.length = fs.size ∧
        ∀ (j : Nat) (f : Field), fs[j]? = some f → ∃ (v : Value) (y : DataW H × List MemPlace), w.cell? (a.add (i * fs.size + j)) = some v ∧ ys[j]? = some y ∧ DataW.trod enc P w base spare held n f.type [v] = some y := by
  rcases open_slice ht h with h0 | ⟨a, len, cap, m, n, D, Pl, hcs, hb, hl, hm, hmm, hx, hi⟩
  · exact .inl h0
  · refine .inr ⟨a, len, cap, m, D, Pl, hcs, hb, hl, hm, hmm, by rw [hC] at hx; exact hx, fun i him => ?_⟩
    obtain ⟨cs', hc, ht'⟩ := hi i him
    rw [hC] at hc
    obtain ⟨ys, n', hn', hy, hlen, hyl, hf⟩ := DataW.trod_struct he ht'
    obtain ⟨_, hcl, hat⟩ := World.cells?_some hc
    simp only [Prod.mk.injEq] at hy
    refine ⟨ys, n', hy.1, hy.2, hyl, fun j f hj => ?_⟩
    obtain ⟨ho, hk⟩ := hone_of hone j f hj
    have hjl : j < fs.size := (Array.getElem?_eq_some_iff.1 hj).1
    have hcell := hat j hjl
    have hv : cs'[j]? = some (cs'[j]'(by omega)) := List.getElem?_eq_getElem (by omega)
    have h1 := hf j f hj
    rw [ho, hk] at h1
    have hone' : (cs'.drop j).take 1 = [cs'[j]'(by omega)] := by
      rw [List.drop_eq_getElem_cons (by omega)]
      rfl
    rw [hone'] at h1
    have hys : ys[j]? = some (ys[j]'(by omega)) := List.getElem?_eq_getElem (by omega)
    refine ⟨_, _, ?_, hys, h1.trans hys⟩
    rw [← Go.Deep.add_add, hcell, hv]
end
def dO {H : Type} (p : Chg) : DataW H := .agg [.lit (.bool p.drop), .lit (.string p.key.data.toList), .lit (.int .i64 p.val)]
theorem open_opns {H : Type} {enc : TypeId × Value → H} {W : World} {base : Nat} {spare : Nat → Bool} {held : Bool} {a : Option Addr} {len cap : Nat} {d : DataW H} {ps : List MemPlace}
    (h : DataW.Trod enc Tryz.prog W base spare held 31 (.slice a len cap) d ps) :
    ∃ l : List Chg, len = l.length ∧ ChAt W a l ∧ ((d = .nil ∧ l = []) ∨ ∃ sp, d = .slice (l.map dO) sp) := by
  obtain ⟨fuel, hf⟩ := h
  rcases open_slice_fields (fs := #[_, _, _]) Tryz.underlying31 Tryz.underlying30 (by kernel_rfl) (by kernel_rfl) hf with ⟨hcs, hx⟩ | ⟨ad, len', cap', m, D, Pl, hcs, _, hl, hm, hmm, hx, hi⟩
  · simp [Value.cells] at hcs
    obtain ⟨rfl, rfl, rfl⟩ := hcs
    obtain ⟨rfl, _⟩ := Prod.mk.inj hx
    exact ⟨[], rfl, fun i hi => by simp at hi, .inl ⟨rfl, rfl⟩⟩
  · simp [Value.cells] at hcs
    obtain ⟨rfl, rfl, rfl⟩ := hcs
    obtain ⟨hx, _⟩ := Prod.mk.inj hx
    subst hx
    have hlm : len ≤ m := by rw [hmm]; split; exact hl; exact Nat.le_refl _
    have each : ∀ i : Nat, ∃ p : Chg, i < len → D i = dO p ∧ W.cell? (ad.add (i * 3)) = some (.bool p.drop) ∧ W.cell? (ad.add (i * 3 + 1)) = some (.string p.key) ∧ W.cell? (ad.add (i * 3 + 2)) = some (.int .i64 p.val) := by
      intro i
      by_cases hil : i < len
      · obtain ⟨ys, n, hD, _, hyl, hj⟩ := hi i (by omega)
        obtain ⟨v0, y0, c0, e0, t0⟩ := hj 0 _ rfl
        obtain ⟨v1, y1, c1, e1, t1⟩ := hj 1 _ rfl
        obtain ⟨v2, y2, c2, e2, t2⟩ := hj 2 _ rfl
        obtain ⟨n0, q0, r0⟩ := DataW.trod_bool Tryz.underlying4 t0
        obtain ⟨s1, q1, r1, w1⟩ := DataW.trod_string Tryz.underlying9 t1
        obtain ⟨n2, q2, r2, w2⟩ := DataW.trod_int Tryz.underlying3 t2
        simp only [List.cons.injEq, and_true] at q0 q1 q2
        subst q0 q1 q2 r0 r1 r2
        refine ⟨⟨n0, s1, n2⟩, fun _ => ⟨?_, c0, c1, c2⟩⟩
        have hys : ys = [(.lit (.bool n0), []), (.lit (.string s1.data.toList), []), (.lit (.int .i64 n2), [])] := by
          match ys, hyl, e0, e1, e2 with
          | [a, b, c], _, e0, e1, e2 => simp at e0 e1 e2; rw [e0, e1, e2]
        rw [hD, hys]
        rfl
      · exact ⟨⟨false, ⟨#[]⟩, 0⟩, fun h => absurd h hil⟩
    obtain ⟨g, hg⟩ := Classical.axiomOfChoice each
    refine ⟨(List.range len).map g, by simp, fun i hil => ?_, .inr ⟨(List.range (m - len)).map fun j => D (len + j), ?_⟩⟩
    · have hi2 : i < len := by simpa using hil
      have he : ((List.range len).map g)[i] = g i := by simp
      rw [he]
      exact ⟨ad, rfl, (hg i hi2).2⟩
    · congr 1
      rw [List.map_map]
      apply List.map_congr_left
      intro j hj
      exact (hg j (List.mem_range.1 hj)).1
def wtO : List Chg → Nat
  | [] => 0
  | p :: ps => p.key.size + 1 + wtO ps
theorem wtO_bulk {H : Type} (l : List Chg) : wtO l ≤ Rows.uptoBulkAll (l.map (dO (H := H))) := by
  induction l with
  | nil => exact Nat.zero_le _
  | cons p ps ih =>
    have e : p.key.data.toList.length = p.key.size := T.L_len _
    simp only [List.map_cons, Rows.uptoBulkAll, wtO, dO, Rows.uptoBulk, e]
    omega
theorem wtO_len : ∀ (l : List Chg), l.length ≤ wtO l
  | [] => Nat.zero_le _
  | p :: ps => by have := wtO_len ps; simp only [List.length_cons, wtO]; omega
theorem wtO_mem : ∀ (l : List Chg) (p : Chg), p ∈ l → p.key.size ≤ wtO l
  | q :: l, p, h => by
    simp only [wtO]
    rcases List.mem_cons.1 h with e | e
    · rw [e]; omega
    · have := wtO_mem l p e; omega
end Go.Proofs.YtjhgknagmiekeaaGreat.R
set_option linter.unusedVariables false
set_option linter.unusedSimpArgs false
namespace Go.Proofs.YtjhgknagmiekeaaGreat.R
open Go.ChangeShapes Go.WideShapes Go.Deep Go.RowKit
open Go.Proofs.YtjhgknagmiekeaaGreatW.PrintWords Go.Proofs.YtjhgknagmiekeaaGreat.G Go.Proofs.YtjhgknagmiekeaaGreat.D
theorem open_coms {H : Type} {enc : TypeId × Value → H} {W : World} {base : Nat} {spare : Nat → Bool} {held : Bool} {a : Option Addr} {len cap : Nat} {d : DataW H} {ps : List MemPlace}
    (h : DataW.Trod enc Tryz.prog W base spare held 34 (.slice a len cap) d ps) :
    ∃ cls : List (List Chg), len = cls.length ∧ ComsAt W a cls ∧ ((d = .nil ∧ cls = []) ∨ ∃ (ds : List (DataW H)) (sp : List (DataW H)), d = .slice ds sp ∧ ds.length = cls.length ∧ ∀ i (h1 : i < ds.length) (h2 : i < cls.length), (ds[i] = .nil ∧ cls[i] = []) ∨ ∃ sp, ds[i] = .slice (cls[i].map dO) sp) := by
  obtain ⟨fuel, hf⟩ := h
  rcases open_slice1 Tryz.underlying34 (by kernel_rfl) hf with ⟨hcs, hx⟩ | ⟨ad, len', cap', m, n, V, D, Pl, hcs, _, hl, hm, hmm, hx, hi⟩
  · simp [Value.cells] at hcs
    obtain ⟨rfl, rfl, rfl⟩ := hcs
    obtain ⟨rfl, _⟩ := Prod.mk.inj hx
    exact ⟨[], rfl, fun i hi => absurd hi (Nat.not_lt_zero _), .inl ⟨rfl, rfl⟩⟩
  · simp [Value.cells] at hcs
    obtain ⟨rfl, rfl, rfl⟩ := hcs
    obtain ⟨hx, _⟩ := Prod.mk.inj hx
    subst hx
    have hlm : len ≤ m := by rw [hmm]; split; exact hl; exact Nat.le_refl _
    have each : ∀ i : Nat, ∃ l : List Chg, i < len → (∃ Ai ci, W.cell? (ad.add i) = some (.slice Ai l.length ci) ∧ ChAt W Ai l) ∧ ((D i = .nil ∧ l = []) ∨ ∃ sp, D i = .slice (l.map dO) sp) := by
      intro i
      by_cases hil : i < len
      · obtain ⟨hc, ht⟩ := hi i (by omega)
        obtain ⟨Ai, ni, ci, e⟩ := Go.Joins.slice_form Tryz.underlying31 ht
        have e1 := (List.cons.inj e).1
        rw [e1] at hc ht
        obtain ⟨l, rfl, h1, h2⟩ := open_opns (H := H) (d := D i) (ps := Pl i) ⟨n, by simpa [Value.cells] using ht⟩
        exact ⟨l, fun _ => ⟨⟨Ai, ci, hc, h1⟩, h2⟩⟩
      · exact ⟨[], fun h => absurd h hil⟩
    obtain ⟨g, hg⟩ := Classical.axiomOfChoice each
    refine ⟨(List.range len).map g, by simp, fun i hil => ?_, .inr ⟨(List.range len).map D, _, rfl, by simp, fun i h1 h2 => ?_⟩⟩
    · have hi2 : i < len := by simpa using hil
      obtain ⟨⟨Ai, ci, h1, h2⟩, -⟩ := hg i hi2
      have he : ((List.range len).map g)[i] = g i := by simp
      rw [he]
      exact ⟨ad, Ai, ci, rfl, h1, h2⟩
    · have hi2 : i < len := by simpa using h1
      have he : ((List.range len).map g)[i] = g i := by simp
      have hd : ((List.range len).map D)[i] = D i := by simp
      rw [he, hd]
      exact (hg i hi2).2
def wtC : List (List Chg) → Nat
  | [] => 0
  | l :: r => wtO l + 1 + wtC r
theorem wtC_of {H : Type} : ∀ (cls : List (List Chg)) (ds : List (DataW H)), ds.length = cls.length → (∀ i (h1 : i < ds.length) (h2 : i < cls.length), (ds[i] = .nil ∧ cls[i] = []) ∨ ∃ sp, ds[i] = .slice (cls[i].map dO) sp) → wtC cls ≤ Rows.uptoBulkAll ds
  | [], _, _, _ => Nat.zero_le _
  | l :: r, [], h, _ => by simp at h
  | l :: r, d :: ds, h, hh => by
    have ih := wtC_of r ds (by simpa using h) (fun i h1 h2 => by have := hh (i + 1) (by simpa using h1) (by simpa using h2); simpa using this)
    have h0 := hh 0 (by simp) (by simp)
    have h1 : wtO l + 1 ≤ Rows.uptoBulk d := by
      have h0' : (d = .nil ∧ l = []) ∨ ∃ sp, d = .slice (l.map dO) sp := h0
      rcases h0' with ⟨rfl, rfl⟩ | ⟨sp, rfl⟩
      · exact Nat.le_refl _
      · have := wtO_bulk (H := H) l
        simp only [Rows.uptoBulk]
        omega
    simp only [wtC, Rows.uptoBulkAll]
    omega
theorem wtC_all {H : Type} {d : DataW H} {cls : List (List Chg)} (h : (d = .nil ∧ cls = []) ∨ ∃ (ds : List (DataW H)) (sp : List (DataW H)), d = .slice ds sp ∧ ds.length = cls.length ∧ ∀ i (h1 : i < ds.length) (h2 : i < cls.length), (ds[i] = .nil ∧ cls[i] = []) ∨ ∃ sp, ds[i] = .slice (cls[i].map dO) sp) : wtC cls ≤ Rows.uptoBulk d := by
  rcases h with ⟨rfl, rfl⟩ | ⟨ds, sp, rfl, h1, h2⟩
  · exact Nat.zero_le _
  · have := wtC_of cls ds h1 h2
    simp only [Rows.uptoBulk]
    omega
theorem wtC_len : ∀ (l : List (List Chg)), l.length ≤ wtC l
  | [] => Nat.zero_le _
  | p :: ps => by have := wtC_len ps; simp only [List.length_cons, wtC]; omega
theorem wtC_tot : ∀ (l : List (List Chg)), tot l ≤ wtC l
  | [] => Nat.zero_le _
  | p :: ps => by have := wtC_tot ps; have := wtO_len p; simp only [tot, wtC, List.map_cons, List.sum_cons] at *; omega
theorem wtC_mem : ∀ (cls : List (List Chg)) (l : List Chg), l ∈ cls → ∀ c ∈ l, c.key.size ≤ wtC cls
  | q :: cls, l, h, c, hc => by
    simp only [wtC]
    rcases List.mem_cons.1 h with e | e
    · rw [e] at hc; have := wtO_mem q c hc; omega
    · have := wtC_mem cls l e c hc; omega
end Go.Proofs.YtjhgknagmiekeaaGreat.R
