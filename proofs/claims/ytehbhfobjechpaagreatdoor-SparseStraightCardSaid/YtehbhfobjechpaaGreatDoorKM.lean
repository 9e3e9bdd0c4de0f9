/- Contract: sparse.DoOf of a function of one block. -/
import Derived.Test.YtehbhfobjechpaaGreatDoorKL
import Derived.Test.YtehbhfobjechpaaGreatDoorWalkRead
namespace Go.Proofs.YtehbhfobjechpaaGreatDoor
open Go.AI

theorem length_keep (F : List (Int × Int)) (xs : List Own) : (xs.filterMap (keepF F)).length ≤ xs.length := List.length_filterMap_le _ _

theorem nowM_reg {F : List (Int × Int)} {r : Bool} {n : Int} (h : (nowM F r n).1 = true) : r = true ∧ (nowM F r n).2 = n := by
  unfold nowM at h ⊢
  split at h
  · cases h
  · rename_i h1
    rw [if_neg h1]
    exact ⟨h, rfl⟩

theorem keep_valid {F : List (Int × Int)} {xs : List Own} {N : Nat} (q : ∀ (j : Nat) x, xs[j]? = some x → InOrd 0 j x) (hN : xs.length ≤ N) : ∀ y ∈ xs.filterMap (keepF F), Valid N y := by
  intro y hy
  obtain ⟨x, hx, hk⟩ := List.mem_filterMap.1 hy
  obtain ⟨j, hj⟩ := List.getElem?_of_mem hx
  have hl := (List.getElem?_eq_some_iff.mp hj).1
  have p := q j x hj
  unfold keepF at hk
  split at hk
  · cases hk
  · cases hk
    refine ⟨⟨j, p.dst, by omega⟩, fun e => ?_, fun e => ?_⟩
    · obtain ⟨e1, e2⟩ := nowM_reg e
      obtain ⟨k, h1, h2⟩ := p.a e1
      exact ⟨k, by show (nowM F x.ar x.an).2 = k; rw [e2, h1], by omega⟩
    · obtain ⟨e1, e2⟩ := nowM_reg e
      obtain ⟨k, h1, h2⟩ := p.b e1
      exact ⟨k, by show (nowM F x.br x.bn).2 = k; rw [e2, h1], by omega⟩

theorem doof_does {h : Heap} (ok : HOk h) {N : Nat} {mB : SV} {r1 : Bool} {n1 : Int} {xs : List Own} (m : FnOk h 0 N mB r1 n1 xs) (hN : N < 100000) :
    Does FF n_sparse_DoOf [.int .i64 0, .agg ⟨fnCells sMain 0 N mB⟩] h (fun v h' => Grows Nob h h' ∧ ∃ (F : List (Int × Int)) (blocks' L : SV) (R : Nat) (k : Int), v = .agg ⟨fnCells sMain 0 R blocks'⟩ ∧ R ≤ N ∧ OneW h.next h' blocks' L (nowM F r1 n1).1 k ∧ L.l = (xs.filterMap (keepF F)).length ∧ ((nowM F r1 n1).1 = false → k = (nowM F r1 n1).2) ∧ Fix xs F ∧ F.length = N) := by
  have w1 : IntKind.i64.wrap (0 + 1) = 1 := wrap_i64 _ (by omega) (by omega)
  have w1' : IntKind.i64.wrap 1 = 1 := wrap_i64 _ (by omega) (by omega)
  have hlenN : xs.length ≤ N := by have := m.cnt; omega
  obtain ⟨b, ro, o, s, ha, hl, hb0⟩ := blk_get m.one
  refine Does.of c_sparse_DoOf ?_
  unfold b_sparse_DoOf
  simp [fnCells]
  refine OpsR.cut (fun h1 => Grows Nob h h1 ∧ h1.tr.get h.next = some (.blk [.string sMain, .int .i64 0, .int .i64 N, .slice mB.a 1 mB.c] false 0 0) ∧ h1.tr.get (h.next + 1) = some (.blk [.string ⟨⟨[]⟩⟩, .int .i64 0, .int .i64 0, .slice none 0 0] false 0 0)) ?_ ?_
  · exact ⟨((Grows.refl ok).new _ _).new _ _, by simp [hl], by simp⟩
  rintro h1 ⟨g1, hF1, hR1⟩
  refine OpsR.call (V := fun v h' => Grows Nob h1 h' ∧ ∃ (p FB : Nat) (ah : SV) (mp : Nat) (F : List (Int × Int)), v = .pointer (some ⟨p, 0, none⟩) ∧ h1.next ≤ p ∧ h1.next ≤ FB ∧ St h' p FB N mB ah mp false F ∧ Fix xs F) (by simpa [fnCells] using solve_does g1.ok (m.grow ok g1) hN) ?_
  rintro _ h2 ⟨g2, p, FB, ah, mp, F, rfl, hp, hFB, k2, hfx⟩
  have gg2 := g1.trans g2
  have hF2 := g2.get g1.ok hF1 (fun h => h)
  have hR2 := g2.get g1.ok hR1 (fun h => h)
  simp [hF2]
  rw [runs_loop]
  unfold r_sparse_DoOf_0
  simp
  refine OpsR.call (V := fun v h' => Grows Nob h2 h' ∧ ∃ L : SV, v = .agg ⟨blkCells ⟨none, 0, 0⟩ L (nowM F r1 n1).1 (nowM F r1 n1).2 ⟨none, 0, 0⟩⟩ ∧ AccOf encOwn h2.next h' L.v (xs.filterMap (keepF F))) (by simpa using turn_does ok gg2 m hN k2) ?_
  rintro _ h3 ⟨g3, L, rfl, hA3⟩
  have gg3 := gg2.trans g3
  have hF3 := g3.get gg2.ok hF2 (fun h => h)
  have hR3 := g3.get gg2.ok hR2 (fun h => h)
  have r3 : roomy 1 = true := rfl
  have r4 : roomy 96 = true := rfl
  simp [blkCells, appendF, news, appendV, r3, r4, w1, w1']
  rw [runs_loop]
  try unfold r_sparse_DoOf_0
  have oF3 := gg3.ok.old hF3
  simp [hF3, oF3]
  refine OpsR.cut (fun h4 => Grows Nob h h4 ∧ Grows (· = h.next) h3 h4 ∧ (∃ s, h4.tr.get h.next = some (.blk (fnCells sMain 0 N ⟨some ⟨h3.next + 1, 0, none⟩, 1, 1⟩) false 0 s)) ∧ h4.tr.get (h.next + 1) = some (.blk [.string ⟨⟨[]⟩⟩, .int .i64 0, .int .i64 0, .slice none 0 0] false 0 0) ∧
      OneB h4 ⟨some ⟨h3.next + 1, 0, none⟩, 1, 1⟩ nilS L (nowM F r1 n1).1 (nowM F r1 n1).2 nilS) ?_ ?_
  · have lF : h.next + 1 < h3.next := gg3.ok.old hR3
    have e1 : ¬ h3.next + 1 = h.next := by omega
    have e2 : ¬ h.next + 1 = h.next := by omega
    have G : Grows (fun x => x = h.next) h3 (put (newBlk (newBlk h3 [.slice none 0 0, .slice L.a L.l L.c, .int .i64 1, .bool (nowM F r1 n1).1, .int .i64 (nowM F r1 n1).2, .slice none 0 0] 0) [.slice none 0 0, .slice L.a L.l L.c, .int .i64 1, .bool (nowM F r1 n1).1, .int .i64 (nowM F r1 n1).2, .slice none 0 0] 6) h.next 3 [.string sMain, .int .i64 0, .int .i64 N, .slice mB.a 1 mB.c] [.slice (some ⟨h3.next + 1, 0, none⟩) 1 1] 0) := by
      refine Grows.put (((Grows.refl gg3.ok).new _ _).new _ _) ⟨0, ?_⟩ (.inr rfl)
      simp [hF3, oF3]
    have e3 : ¬ h.next = h3.next := by omega
    have e4 : ¬ h.next + 1 = h3.next := by omega
    refine ⟨gg3.trans' G (fun _ _ h => h) (by rintro x hx rfl; omega), G, ⟨h3.clock, by simp [fnCells]⟩, by simp [hR3, e2, e3, e4], ⟨rfl, h3.next + 1, false, 6, 0, rfl, by simp [e1, blkCells, nilS]⟩⟩
  rintro h4 ⟨g4, g34, ⟨s4, hF4⟩, hR4, hB4⟩
  refine OpsR.call (V := fun _ h' => Grows Nob h4 h') (by simpa using jumps_ret g4.ok hF4 hB4) ?_
  rintro _ h5 g5
  have gg5 := g4.trans g5
  have hF5 := g5.get g4.ok hF4 (fun h => h)
  have hR5 := g5.get g4.ok hR4 (fun h => h)
  have hF5' : h5.tr.get h.next = some (.blk [.string sMain, .int .i64 0, .int .i64 N, .slice (some ⟨h3.next + 1, 0, none⟩) 1 1] false 0 s4) := hF5
  have ll2 : h.next + 1 < h2.next := gg2.ok.old hR2
  have hA5 : AccOf encOwn h2.next h5 L.v (xs.filterMap (keepF F)) := hA3.grow gg3.ok (g34.trans g5.nob) (fun x hx e => by have := hA3.of hx; omega)
  have hon : (nowM F r1 n1).1 = true → ∃ k : Nat, (nowM F r1 n1).2 = k ∧ k < N := by
    intro e
    obtain ⟨e1, e2⟩ := nowM_reg e
    obtain ⟨k, h1, h2⟩ := m.on e1
    exact ⟨k, by rw [e2, h1], by omega⟩
  have hLl : L.l = (xs.filterMap (keepF F)).length := by
    rcases hA5 with ⟨e0, e⟩ | ⟨b, s, e, _⟩
    · simp at e; rw [e0]; exact e.2.1
    · simp at e; exact e.2.1
  simp [hF5']
  refine OpsR.call (V := fun v h' => Grows (fun b => BlkOf L.v b) h5 h' ∧ ∃ (blocks' : SV) (R : Nat) (k : Int), v = .agg ⟨fnCells sMain 0 R blocks'⟩ ∧ R ≤ N ∧ OneW h5.next h' blocks' L (nowM F r1 n1).1 k ∧ ((nowM F r1 n1).1 = false → k = (nowM F r1 n1).2)) (by simpa [fnCells] using tidy_one gg5.ok (name := sMain) (N := N) (blocks := ⟨some ⟨h3.next + 1, 0, none⟩, 1, 1⟩) (hB4.grow g4.ok g5) hA5 hN (by have := length_keep F xs; omega) (keep_valid m.ord hlenN) hon) ?_
  rintro _ h6 ⟨g6, B6, R, k, rfl, hR, ⟨e1, b5, o5, s5, e2, e3, e4⟩, hk⟩
  have nR : ¬ BlkOf L.v (h.next + 1) := fun e => by have := hA5.of e; omega
  have hR6 := g6.get gg5.ok hR5 nR
  have nb : ¬ b5 = h.next + 1 := by have := gg5.ok.old hR5; have := this.lt; omega
  have gg6 : Grows Nob h h6 := gg5.trans' g6 (fun _ _ h => h) (fun x hx e => by have := hA5.of e; omega)
  simp [fnCells, hR6]
  have hl5 : h.next ≤ h5.next := gg5.next
  exact ⟨gg6.put ⟨_, hR6⟩ (.inl (by omega)), F, B6, L, R, ⟨rfl, rfl, rfl, rfl⟩, hR, k, ⟨e1, b5, o5, s5, e2, by omega, by simp [nb, e4]⟩, hLl, hk, hfx, k2.ln⟩
end Go.Proofs.YtehbhfobjechpaaGreatDoor

/- Contracts: the closure of sparse.Do, graph.Each of main alone, sparse.Do. -/
namespace Go.Proofs.YtehbhfobjechpaaGreatDoor
open Go.AI

/-- what a function becomes -/
structure Came (N : Nat) (xs : List Own) (r1 : Bool) (n1 : Int) (n0 : Nat) (h : Heap) (R : Nat) (B L : SV) (k : Int) (F : List (Int × Int)) : Prop where
  reg : R ≤ N
  one : OneW n0 h B L (nowM F r1 n1).1 k
  len : L.l = (xs.filterMap (keepF F)).length
  num : (nowM F r1 n1).1 = false → k = (nowM F r1 n1).2
  fix : Fix xs F
  cnt : F.length = N

theorem clos_does {h : Heap} (ok : HOk h) {Wd ow sw : Nat} {rw_ : Bool} {N : Nat} {mB : SV} {r1 : Bool} {n1 : Int} {xs : List Own} (hW : h.tr.get Wd = some (.blk [.int .i64 0] rw_ ow sw)) (m : FnOk h 0 N mB r1 n1 xs) (hN : N < 100000) :
    DoesV FF (.func (.func n_sparse_Do_1) #[] #[.pointer (some ⟨Wd, 0, none⟩)]) [.agg ⟨fnCells sMain 0 N mB⟩] h (fun v h' => Grows Nob h h' ∧ ∃ (R : Nat) (B L : SV) (k : Int) (F : List (Int × Int)), v = .agg ⟨fnCells sMain 0 R B⟩ ∧ Came N xs r1 n1 h.next h' R B L k F) := by
  refine DoesV.func ?_
  refine Does.of c_sparse_Do_1 ?_
  unfold b_sparse_Do_1
  have oW := ok.old hW
  simp [fnCells, hW, oW]
  refine OpsR.cut (fun h1 => Grows Nob h h1 ∧ h1.tr.get (h.next + 1) = some (.blk [.string ⟨⟨[]⟩⟩, .int .i64 0, .int .i64 0, .slice none 0 0] false 0 0)) ?_ ?_
  · exact ⟨((Grows.refl ok).new _ _).new _ _, by simp [Nat.add_assoc]⟩
  rintro h1 ⟨g1, hR1⟩
  refine OpsR.call (V := fun v h' => Grows Nob h1 h' ∧ ∃ (F : List (Int × Int)) (blocks' L : SV) (R : Nat) (k : Int), v = .agg ⟨fnCells sMain 0 R blocks'⟩ ∧ R ≤ N ∧ OneW h1.next h' blocks' L (nowM F r1 n1).1 k ∧ L.l = (xs.filterMap (keepF F)).length ∧ ((nowM F r1 n1).1 = false → k = (nowM F r1 n1).2) ∧ Fix xs F ∧ F.length = N) (by simpa [fnCells] using doof_does g1.ok (m.grow ok g1) hN) ?_
  rintro _ h2 ⟨g2, F, B, L, R, k, rfl, c1, ⟨e1, b2, o2, s2, e3, e4, e5⟩, c3, c4, c5, c6⟩
  have hR2 := g2.get g1.ok hR1 (fun h => h)
  have lt1 : h.next + 1 < h1.next := g1.ok.old hR1
  have nb : ¬ b2 = h.next + 1 := by omega
  simp [fnCells, hR2]
  exact ⟨(g1.trans g2).put ⟨_, hR2⟩ (.inl (by omega)), R, B, ⟨rfl, rfl, rfl, rfl⟩, L, k, F, c1, ⟨e1, b2, o2, s2, e3, by omega, by simp [nb]; exact e5⟩, c3, c4, c5, c6⟩

def encF : Enc (ByteArray × Int × Int × SV) := ⟨fun x => fnCells x.1 x.2.1 x.2.2.1 x.2.2.2, 4, fun _ => rfl, by decide, fun _ => rfl⟩
@[simp] theorem encF_sz : encF.sz = 4 := rfl

def fnOk_of {h : Heap} {n0 N : Nat} {B : SV} {r : Bool} {n : Int} {xs : List Own} (w : OwnFn n0 h B r n xs) (q : ∀ (j : Nat) x, xs[j]? = some x → InOrd 0 j x) (cnt : 0 + xs.length ≤ N) (on : r = true → ∃ k : Nat, n = k ∧ k < xs.length + 0) : FnOk h 0 N B r n xs := by
  refine ⟨nilS, w.list, nilS, ⟨w.bl.2, w.b, false, 6, w.s, w.bl.1, w.blk⟩, rfl, rfl, w.sl.sl, q, cnt, on, rfl, rfl⟩

theorem each_one {h : Heap} (ok : HOk h) {Wd ow sw : Nat} {rw_ : Bool} {mB : SV} {Fb fc o s N : Nat} {ro : Bool} {n1 : Int} {r1 : Bool} {xs : List Own} (m : FnOk h 0 N mB r1 n1 xs) (hN : N ≤ 100) (hlen : xs.length ≤ 60)
    (hW : h.tr.get Wd = some (.blk [.int .i64 0] rw_ ow sw))
    (hF : h.tr.get Fb = some (.blk (fnCells sMain 0 N mB) ro o s)) :
    Does FF n_graph_Each [.agg ⟨[.slice none 0 0, .slice (some ⟨Fb, 0, none⟩) 1 fc]⟩, .func (.func n_sparse_Do_1) #[] #[.pointer (some ⟨Wd, 0, none⟩)]] h
      (fun v h' => Grows Nob h h' ∧ ∃ (d c s R : Nat) (B L : SV) (k : Int) (F : List (Int × Int)), v = .tuple #[.agg ⟨[.slice none 0 0, .slice (some ⟨d, 0, none⟩) 1 c]⟩, .agg #[.int .i64 0, .int .i64 0]] ∧ h.next ≤ d ∧ h'.tr.get d = some (.blk (fnCells sMain 0 R B) false 4 s) ∧ Came N xs r1 n1 h.next h' R B L k F) := by
  have w1 : IntKind.i64.wrap (0 + 1) = 1 := wrap_i64 _ (by omega) (by omega)
  have w1' : IntKind.i64.wrap 1 = 1 := wrap_i64 _ (by omega) (by omega)
  refine Does.of c_graph_Each ?_
  unfold b_graph_Each
  have e2 : ¬ h.next = h.next + 1 + 1 := by omega
  simp [e2]
  refine OpsR.cut (fun h1 => Grows Nob h h1 ∧ (∃ s, h1.tr.get h.next = some (.blk [.slice none 0 0, .slice (some ⟨Fb, 0, none⟩) 1 fc] false 0 s)) ∧ h1.tr.get (h.next + 1) = some (.blk [.slice none 0 0, .slice none 0 0] false 0 0) ∧ h1.tr.get (h.next + 1 + 1) = some (.blk [.int .i64 0, .int .i64 0] false 0 0)) ?_ ?_
  · exact ⟨(((Grows.refl ok).new _ _).new _ _).new _ _, ⟨0, by simp [Nat.add_assoc]⟩, by simp [Nat.add_assoc], by simp [Nat.add_assoc]⟩
  rintro h1 ⟨g1, ⟨s1, hU1⟩, hR1, hE1⟩
  refine OpsR.call (V := fun v h' => v = .slice none 0 0 ∧ h' = h1) (by simpa using clone_nil (bytes := 48) c_slices_Clone_api_Global_api_Global h1 0) ?_
  rintro _ h1' ⟨rfl, eh⟩
  rw [eh]
  have nUR : ¬ h.next + 1 = h.next := by omega
  have nUE : ¬ h.next + 1 + 1 = h.next := by omega
  simp [hU1]
  refine Runs.cut (fun h2 => Grows Nob h h2 ∧ h2.next = h1.next ∧ (∃ s, h2.tr.get h.next = some (.blk [.slice none 0 0, .slice (some ⟨Fb, 0, none⟩) 1 fc] false 0 s)) ∧ h2.tr.get (h.next + 1) = some (.blk [.slice none 0 0, .slice none 0 0] false 0 0) ∧ h2.tr.get (h.next + 1 + 1) = some (.blk [.int .i64 0, .int .i64 0] false 0 0)) ?_ ?_
  · exact ⟨g1.put ⟨_, hU1⟩ (.inl (Nat.le_refl _)), rfl, ⟨h1.clock, by simp⟩, by simpa [nUR] using hR1, by simpa [nUE] using hE1⟩
  rintro h2 ⟨g2, hn2, ⟨s2, hU2⟩, hR2, hE2⟩
  rw [runs_loop]
  unfold r_graph_Each_1
  simp [hU2]
  have m2 := m.grow ok g2
  have hF2 := g2.get ok hF (fun h => h)
  have hsF : SliceOf encF h2 (SV.v ⟨some ⟨Fb, 0, none⟩, 1, fc⟩) [(sMain, 0, (N : Int), mB)] := ⟨_, fc, rfl, .inr ⟨Fb, 0, _, _, _, _, rfl, hF2, by simp [fnCells], by simp [encF, Enc.flat, fnCells]⟩⟩
  refine OpsR.call (V := fun v h' => Grows Nob h2 h' ∧ ∃ w : SV, v = w.v ∧ NewOf encF h2.next h' w [(sMain, 0, (N : Int), mB)]) ?_ ?_
  · have C := (clone_does encF (bytes := 56) c_slices_Clone_api_Func_api_Func rfl (by decide) g2.ok hsF (by simp)).mono (R' := fun v h' => Grows Nob h2 h' ∧ ∃ w : SV, v = w.v ∧ NewOf encF h2.next h' w [(sMain, 0, (N : Int), mB)]) (fun v h' ⟨g, w, e, k, _⟩ => ⟨g, w, e, k⟩)
    simpa using C
  rintro _ h3 ⟨g3, w, rfl, hw⟩
  have gg3 := g2.trans g3
  obtain ⟨hwl, hw⟩ := hw
  rcases hw with ⟨e, _⟩ | ⟨_, d, s3, hwa, hwd, hD3⟩
  · cases e
  have hwl2 : w.l = 1 := hwl
  have hD3' : h3.tr.get d = some (.blk [.string sMain, .int .i64 0, .int .i64 N, .slice mB.a mB.l mB.c] false 4 s3) := by rw [hD3]; simp [encF, Enc.flat, fnCells]
  have hU3 := g3.get g2.ok hU2 (fun h => h)
  have lt2 : h.next + 1 + 1 < h2.next := g2.ok.old hE2
  have nDU : ¬ d = h.next := by omega
  have nDR : ¬ h.next + 1 = d := by omega
  simp [hU3, hwl2, hwa]
  refine Runs.cut (fun h4 => Grows Nob h h4 ∧ h4.next = h3.next ∧ (∃ s, h4.tr.get h.next = some (.blk [.slice none 0 0, .slice (some ⟨d, 0, none⟩) 1 w.c] false 0 s)) ∧ h4.tr.get (h.next + 1) = some (.blk [.slice none 0 0, .slice none 0 0] false 0 0) ∧ h4.tr.get (h.next + 1 + 1) = some (.blk [.int .i64 0, .int .i64 0] false 0 0) ∧ h4.tr.get d = some (.blk [.string sMain, .int .i64 0, .int .i64 N, .slice mB.a mB.l mB.c] false 4 s3)) ?_ ?_
  · exact ⟨gg3.put ⟨_, hU3⟩ (.inl (Nat.le_refl _)), rfl, ⟨h3.clock, by simp⟩, by simpa [nUR] using g3.get g2.ok hR2 (fun h => h), by simpa [nUE] using g3.get g2.ok hE2 (fun h => h), by simpa [nDU] using hD3'⟩
  rintro h4 ⟨g4, hn4, ⟨s4, hU4⟩, hR4, hE4, hD4⟩
  have oD4 := g4.ok.old hD4
  rw [runs_loop]
  unfold r_graph_Each_0
  simp [hD4, oD4]
  refine OpsR.cut (fun h5 => Grows Nob h4 h5 ∧ ∃ s, h5.tr.get h4.next = some (.blk [.string sMain, .int .i64 0, .int .i64 N, .slice mB.a mB.l mB.c] false 0 s)) ?_ ?_
  · exact ⟨((Grows.refl g4.ok).new _ _).put ⟨0, by simp⟩ (.inl (by omega)), h4.clock, by simp⟩
  rintro h5 ⟨g5, s5, hV5⟩
  have gg5 := g4.trans g5
  have lt4 := g5.ok.old hV5
  refine OpsR.call (V := fun v h' => Grows Nob h5 h' ∧ ∃ B : SV, v = .agg ⟨fnCells sMain 0 N B⟩ ∧ Nonempty (OwnFn h5.next h' B r1 n1 xs)) (by simpa [fnCells] using copy_one gg5.ok (name := sMain) (m.grow ok gg5) (by omega)) ?_
  rintro _ h6 ⟨g6, B, rfl, ⟨ow1⟩⟩
  have gg6 := gg5.trans g6
  refine OpsR.callV (V := fun v h' => Grows Nob h6 h' ∧ ∃ (R : Nat) (B L : SV) (k : Int) (F : List (Int × Int)), v = .agg ⟨fnCells sMain 0 R B⟩ ∧ Came N xs r1 n1 h6.next h' R B L k F) ?_ ?_
  · have C := clos_does gg6.ok (gg6.get ok hW (fun h => h)) (fnOk_of ow1 m.ord m.cnt m.on) (by omega)
    simpa [fnCells] using C
  rintro _ h7 ⟨g7, R, B1, L1, k, F, rfl, C⟩
  have hV7 := g7.get gg6.ok (g6.get gg5.ok hV5 (fun h => h)) (fun h => h)
  have g47 : Grows Nob h4 h7 := (g5.trans g6).trans g7
  simp [fnCells, hV7]
  obtain ⟨eB1, bB1, oB1, sB1, aB1, lB1, hbB1⟩ := C.one
  have hL60 : L1.l ≤ 60 := by rw [C.len]; have := length_keep F xs; omega
  have hRN := C.reg
  have l56 := g6.next
  have ltB1 : ¬ bB1 = h4.next := by have := lt4.lt; omega
  refine OpsR.cut (fun h8 => Grows Nob h4 h8 ∧ (∃ s, h8.tr.get h4.next = some (.blk [.string sMain, .int .i64 0, .int .i64 R, .slice B1.a B1.l B1.c] false 0 s)) ∧ OneW h4.next h8 B1 L1 (nowM F r1 n1).1 k) ?_ ?_
  · exact ⟨g47.put ⟨_, hV7⟩ (.inl (Nat.le_refl _)), ⟨h7.clock, by simp⟩, ⟨eB1, bB1, oB1, sB1, aB1, by have := lt4.lt; omega, by simpa [ltB1] using hbB1⟩⟩
  rintro h8 ⟨g8, ⟨s8, hV8⟩, hB8⟩
  refine OpsR.call (by simpa [fnCells] using large_one (g4.trans g8).ok (name := sMain) (p := 0) (N := R) hB8.one (by omega) (by omega)) ?_
  rintro _ h9 ⟨rfl, g9⟩
  have g49 := g8.trans g9
  have hV9 := g9.get g8.ok hV8 (fun h => h)
  have hU9 := g49.get g4.ok hU4 (fun h => h)
  have hD9 := g49.get g4.ok hD4 (fun h => h)
  have hR9 := g49.get g4.ok hR4 (fun h => h)
  have hE9 := g49.get g4.ok hE4 (fun h => h)
  have nDU' : ¬ h.next = d := fun e => nDU e.symm
  have nED : ¬ h.next + 1 + 1 = d := by omega
  have nEU : ¬ h.next + 1 + 1 = h.next + 1 := by omega
  have nDR' : ¬ d = h.next + 1 := fun e => nDR e.symm
  have nDE' : ¬ d = h.next + 1 + 1 := fun e => nED e.symm
  obtain ⟨eC, bC, oC, sC, aC, lC, hC⟩ := hB8
  have hC9 := g9.get g8.ok hC (fun h => h)
  have ltk : d < h4.next := oD4.lt
  have nC1 : ¬ bC = d := by omega
  have nC2 : ¬ bC = h.next + 1 := by have := g4.ok.old hR4; have := this.lt; omega
  have nC3 : ¬ bC = h.next + 1 + 1 := by have := g4.ok.old hE4; have := this.lt; omega
  simp [hV9, hU9, hD9, w1, w1']
  rw [runs_loop]
  try unfold r_graph_Each_0
  simp [nDU', hU9, nED, nDR, nEU, hR9, hE9]
  have gk9 := g4.trans g49
  refine ⟨?_, by omega, h9.clock, R, B1, by simp [nDR', nDE', fnCells], L1, k, F, hRN, ⟨eC, bC, oC, sC, aC, ?_, ?_⟩, C.len, C.num, C.fix, C.cnt⟩
  · exact ((gk9.put ⟨_, hD9⟩ (.inl (by omega))).put ⟨0, by simp [nDR, hR9]⟩ (.inl (by omega))).put ⟨0, by simp [nED, nEU, hE9]⟩ (.inl (by omega))
  · have := g4.next; omega
  · simpa [nC1, nC2, nC3] using hC9

theorem sparse_does {h : Heap} (ok : HOk h) (hw : Ways h) {mB : SV} {Fb fc o s N : Nat} {ro : Bool} {n1 : Int} {r1 : Bool} {xs : List Own} (m : FnOk h 0 N mB r1 n1 xs) (hN : N ≤ 100) (hlen : xs.length ≤ 60)
    (hF : h.tr.get Fb = some (.blk (fnCells sMain 0 N mB) ro o s)) :
    Does FF n_sparse_Do [.agg ⟨[.slice none 0 0, .slice (some ⟨Fb, 0, none⟩) 1 fc]⟩] h
      (fun v h' => Grows Nob h h' ∧ ∃ (d c s R : Nat) (B L : SV) (k : Int) (F : List (Int × Int)), v = .tuple #[.agg ⟨[.slice none 0 0, .slice (some ⟨d, 0, none⟩) 1 c]⟩, .agg #[.int .i64 0, .int .i64 0]] ∧ h.next ≤ d ∧ h'.tr.get d = some (.blk (fnCells sMain 0 R B) false 4 s) ∧ Came N xs r1 n1 h.next h' R B L k F) := by
  refine Does.of c_sparse_Do ?_
  unfold b_sparse_Do
  have e2 : ¬ h.next = h.next + 1 + 1 := by omega
  simp [e2]
  refine OpsR.cut (fun h1 => Grows Nob h h1 ∧ (∃ s, h1.tr.get h.next = some (.blk [.slice none 0 0, .slice (some ⟨Fb, 0, none⟩) 1 fc] false 0 s)) ∧ h1.tr.get (h.next + 1) = some (.blk [.slice none 0 0, .slice none 0 0] false 0 0) ∧ h1.tr.get (h.next + 1 + 1) = some (.blk [.int .i64 0, .int .i64 0] false 0 0)) ?_ ?_
  · exact ⟨(((Grows.refl ok).new _ _).new _ _).new _ _, ⟨0, by simp [Nat.add_assoc]⟩, by simp [Nat.add_assoc], by simp [Nat.add_assoc]⟩
  rintro h1 ⟨g1, ⟨s1, hU1⟩, hR1, hE1⟩
  refine OpsR.call (by simpa using ssa_one g1.ok (hw.grow ok g1) (gl := ⟨none, 0, 0⟩) rfl (m.grow ok g1) hN (fc := fc) (g1.get ok hF (fun h => h))) ?_
  rintro _ h2 ⟨rfl, g2⟩
  have gg2 := g1.trans g2
  have hU2 := g2.get g1.ok hU1 (fun h => h)
  have hR2 := g2.get g1.ok hR1 (fun h => h)
  have hE2 := g2.get g1.ok hE1 (fun h => h)
  have oU2 := gg2.ok.old hU2
  simp [hU2, oU2]
  refine OpsR.cut (fun h3 => Grows Nob h2 h3) ?_ ?_
  · repeat (first | exact .refl gg2.ok | apply Grows.new | refine Grows.put ?_ (by simp) (by simp))
  intro h3 g3
  have gg3 := gg2.trans g3
  refine OpsR.call (by simpa using words_nil gg3.ok (gl := ⟨none, 0, 0⟩) rfl ⟨some ⟨Fb, 0, none⟩, 1, fc⟩) ?_
  rintro _ h4 ⟨rfl, g4⟩
  have gg4 := gg3.trans g4
  have t4 := g3.trans g4
  have hU4 := t4.get gg2.ok hU2 (fun h => h)
  have hR4 := t4.get gg2.ok hR2 (fun h => h)
  have hE4 := t4.get gg2.ok hE2 (fun h => h)
  have oU4 := gg4.ok.old hU4
  simp [hU4, oU4]
  refine OpsR.cut (fun h5 => Grows Nob h4 h5 ∧ (∃ s, h5.tr.get h4.next = some (.blk [.int .i64 0] false 0 s))) ?_ ?_
  · exact ⟨((Grows.refl gg4.ok).new _ _).put ⟨0, by simp⟩ (.inl (by omega)), h4.clock, by simp⟩
  rintro h5 ⟨g5, s5, hW5⟩
  have gg5 := gg4.trans g5
  refine OpsR.call (V := fun v h' => Grows Nob h5 h' ∧ ∃ (d c s R : Nat) (B L : SV) (k : Int) (F : List (Int × Int)), v = .tuple #[.agg ⟨[.slice none 0 0, .slice (some ⟨d, 0, none⟩) 1 c]⟩, .agg #[.int .i64 0, .int .i64 0]] ∧ h5.next ≤ d ∧ h'.tr.get d = some (.blk (fnCells sMain 0 R B) false 4 s) ∧ Came N xs r1 n1 h5.next h' R B L k F) (by simpa using each_one gg5.ok (fc := fc) (m.grow ok gg5) hN hlen hW5 (gg5.get ok hF (fun h => h))) ?_
  rintro _ h6 ⟨g6, d, c, s6, R, B, L, k, F, rfl, hd, hD6, C⟩
  have t6 := g5.trans g6
  have hR6 := t6.get gg4.ok hR4 (fun h => h)
  have hE6 := t6.get gg4.ok hE4 (fun h => h)
  have hE5 := g5.get gg4.ok hE4 (fun h => h)
  have lt5 : h.next + 1 + 1 < h5.next := gg5.ok.old hE5
  obtain ⟨e1, b, o6, s7, e3, e4, e5⟩ := C.one
  have nER : ¬ h.next + 1 + 1 = h.next + 1 := by omega
  have n1 : ¬ d = h.next + 1 := by omega
  have n2 : ¬ d = h.next + 1 + 1 := by omega
  have n3 : ¬ b = h.next + 1 := by omega
  have n4 : ¬ b = h.next + 1 + 1 := by omega
  simp [hR6, hE6, nER]
  have gg6 := gg5.trans g6
  refine ⟨?_, by omega, s6, R, B, by simpa [n1, n2] using hD6, L, k, F, C.reg, ⟨e1, b, o6, s7, e3, by omega, by simpa [n3, n4] using e5⟩, C.len, C.num, C.fix, C.cnt⟩
  exact (gg6.put ⟨_, hR6⟩ (.inl (by omega))).put ⟨0, by simp [nER, hE6]⟩ (.inl (by omega))
end Go.Proofs.YtehbhfobjechpaaGreatDoor

/- Contracts: back, the list of instructions that the law is given, one instruction built of one given. -/
namespace Go.Proofs.YtehbhfobjechpaaGreatDoor
open Go.AI

/-- back's answer -/
def backM (r : Bool) (n at_ : Int) : Bool × Int := if r = false ∨ at_ = 0 then (false, n) else if n < 0 then (true, at_ - 1) else (true, Int.tmod n at_)

theorem back_does {h : Heap} (ok : HOk h) (r : Bool) (n : Int) {at_ : Int} (ha : 0 ≤ at_ ∧ at_ < 1000) :
    Does FF n_turnerylaw4_back [.agg ⟨[.bool r, .int .i64 n]⟩, .int .i64 at_] h (fun v h' => v = .agg ⟨[.bool (backM r n at_).1, .int .i64 (backM r n at_).2]⟩ ∧ Grows Nob h h') := by
  refine Does.of c_turnerylaw4_back ?_
  unfold b_turnerylaw4_back
  have w1 : IntKind.i64.wrap (at_ - 1) = at_ - 1 := wrap_i64 _ (by omega) (by omega)
  have e1 : ¬ at_ = -1 := by omega
  unfold backM
  cases r with
  | false =>
    simp
    exact (((Grows.refl ok).new _ _).new _ _).put ⟨0, by simp⟩ (.inl (by omega))
  | true =>
    by_cases h0 : at_ = 0
    · subst h0
      simp
      exact (((Grows.refl ok).new _ _).new _ _).put ⟨0, by simp⟩ (.inl (by omega))
    have hm : IntKind.i64.wrap (Int.tmod n at_) = Int.tmod n at_ := by
      have h1 := Int.tmod_lt_of_pos n (show 0 < at_ by omega)
      have h2 : -at_ < Int.tmod n at_ := Int.lt_tmod_of_pos n (show 0 < at_ by omega)
      exact wrap_i64 _ (by omega) (by omega)
    have b0 := beq_no h0
    by_cases hn : n < 0
    · simp [hn, h0, b0, w1]
      exact (((Grows.refl ok).new _ _).new _ _).put ⟨0, by simp⟩ (.inl (by omega))
    · simp [hn, h0, b0, e1, hm]
      exact (((Grows.refl ok).new _ _).new _ _).put ⟨0, by simp⟩ (.inl (by omega))

theorem backM_lt {r : Bool} {n : Int} {j : Nat} (h : (backM r n (j : Int)).1 = true) : ∃ k : Nat, (backM r n (j : Int)).2 = k ∧ k < j := by
  unfold backM at h ⊢
  split at h
  · cases h
  · rename_i h1
    rw [if_neg h1]
    have ha : (0 : Int) < j := by omega
    split
    · exact ⟨((j : Int) - 1).toNat, by omega, by omega⟩
    · have h2 := Int.tmod_lt_of_pos n ha
      have h3 : 0 ≤ Int.tmod n j := Int.tmod_nonneg _ (by omega)
      exact ⟨(Int.tmod n j).toNat, by omega, by omega⟩

/-- an instruction that comes in -/
structure Raw where
  op : Int
  dst : Int
  ar : Bool
  an : Int
  br : Bool
  bn : Int
  fn : Int
  args : Value

def rawR (c : List Value) (x : Raw) : Prop := c = insCells x.op x.dst x.ar x.an x.br x.bn x.fn x.args

/-- the instruction that stands in the law's function -/
def opM (op : Int) : Int := if op < 1 ∨ 17 < op then 2 else op
def unary (op : Int) : Prop := op = 1 ∨ op = 16 ∨ op = 17
instance (op : Int) : Decidable (unary op) := by unfold unary; exact inferInstance
def rawOwn (j : Nat) (x : Raw) : Own :=
  ⟨opM x.op, (j : Int), (backM x.ar x.an j).1, (backM x.ar x.an j).2, if unary (opM x.op) then false else (backM x.br x.bn j).1, if unary (opM x.op) then 0 else (backM x.br x.bn j).2⟩

theorem rawOwn_ord (j : Nat) (x : Raw) : InOrd 0 j (rawOwn j x) := by
  have h17 : 1 ≤ opM x.op ∧ opM x.op ≤ 17 := by unfold opM; split <;> omega
  refine ⟨?_, rfl, fun h => ?_, fun h => ?_⟩
  · unfold opOk
    by_cases hu : unary (opM x.op)
    · right
      exact ⟨hu, by simp [rawOwn, hu], by simp [rawOwn, hu]⟩
    · left
      have hu' : ¬ (opM x.op = 1 ∨ opM x.op = 16 ∨ opM x.op = 17) := hu
      show 2 ≤ opM x.op ∧ opM x.op ≤ 15
      omega
  · obtain ⟨k, e, hk⟩ := backM_lt (show (backM x.ar x.an j).1 = true from h)
    exact ⟨k, e, by omega⟩
  · by_cases hu : unary (opM x.op)
    · simp [rawOwn, hu] at h
    · simp only [rawOwn, if_neg hu] at h ⊢
      obtain ⟨k, e, hk⟩ := backM_lt h
      exact ⟨k, e, by omega⟩

def owns (rs : List Raw) : List Own := rs.mapIdx rawOwn

theorem raw_read {h : Heap} {v : Value} {rs : List Raw} (s : SliceR rawR 8 h v rs) {j : Nat} {x : Raw} (hj : rs[j]? = some x) :
    ∃ b off c, v = .slice (some ⟨b, off, none⟩) rs.length c ∧ (∃ cs ro o st, h.tr.get b = some (.blk cs ro o st)) ∧ ∀ k m, k + m ≤ 8 → ∀ {h' : Heap}, h'.tr.get b = h.tr.get b → readAt h' b (off + j * 8 + k) m = some (((insCells x.op x.dst x.ar x.an x.br x.bn x.fn x.args).drop k).take m) := by
  obtain ⟨a, cap, rfl, s⟩ := s
  rcases s with ⟨rfl, _⟩ | ⟨b, off, cs, ro, o, st, rfl, hb, he⟩
  · simp at hj
  · refine ⟨b, off, cap, rfl, ⟨_, _, _, _, hb⟩, fun k m hk h' e => ?_⟩
    obtain ⟨hl, hr⟩ := he j x hj
    simp at hl
    have hr' : (cs.drop (off + j * 8)).take 8 = insCells x.op x.dst x.ar x.an x.br x.bn x.fn x.args := hr
    rw [readAt_eq (e.trans hb) (by omega), ← hr', List.drop_take, List.take_take, List.drop_drop]
    congr 2
    omega
end Go.Proofs.YtehbhfobjechpaaGreatDoor
