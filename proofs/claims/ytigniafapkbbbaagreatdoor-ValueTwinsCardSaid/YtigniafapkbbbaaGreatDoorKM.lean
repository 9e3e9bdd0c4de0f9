/- Contracts: the closure of value.Do, graph.Each of main and one function of one block. -/
import Derived.Test.YtigniafapkbbbaaGreatDoorKL
namespace Go.Proofs.YtigniafapkbbbaaGreatDoor
open Go.AI

theorem walk_of {p N : Nat} {xs : List Own} (q : ∀ (j : Nat) x, xs[j]? = some x → InOrd p j x) (hop : ∀ (j : Nat) x, xs[j]? = some x → 2 ≤ x.op ∧ x.op ≤ 15) (cnt : p + xs.length ≤ N) : Walkable N xs := by
  refine ⟨fun x hx => ?_, fun x hx => ?_, ?_⟩
  · obtain ⟨j, hj, rfl⟩ := List.getElem_of_mem hx
    have o := q j _ (List.getElem?_eq_getElem hj)
    refine ⟨⟨j + p, o.dst, by omega⟩, fun h => ?_, fun h => ?_⟩
    · obtain ⟨k, e, hk⟩ := o.a h; exact ⟨k, e, by omega⟩
    · obtain ⟨k, e, hk⟩ := o.b h; exact ⟨k, e, by omega⟩
  · obtain ⟨j, hj, rfl⟩ := List.getElem_of_mem hx
    exact hop j _ (List.getElem?_eq_getElem hj)
  · refine List.pairwise_iff_getElem.2 fun i j hi hj hij => ?_
    have o1 := q i _ (List.getElem?_eq_getElem hi)
    have o2 := q j _ (List.getElem?_eq_getElem hj)
    rw [o1.dst, o2.dst]; omega

theorem clos_does {h : Heap} (ok : HOk h) {n0 Wd ow sw p N : Nat} {rw_ : Bool} {name : ByteArray} {blocks : SV} {n : Int} {xs : List Own} (hW : h.tr.get Wd = some (.blk [.int .i64 0] rw_ ow sw)) (w : OwnFn n0 h blocks false n xs) (hn : n0 ≤ h.next) (hw : Walkable N xs) (hpN : p ≤ N) (hN : N < 1000) (hlen : xs.length < 1000) :
    DoesV FF (.func (.func n_value_Do_1) #[] #[.pointer (some ⟨Wd, 0, none⟩)]) [.agg ⟨fnCells name p N blocks⟩] h (fun v h' => Grows (BlkOf blocks.v) h h' ∧ ∃ (B L : SV) (R : Nat), v = .agg ⟨fnCells name p R B⟩ ∧ R ≤ N ∧ OneW h.next h' B L false n ∧ L.l = (runV (initV N) xs).kept.length) := by
  refine DoesV.func ?_
  refine Does.of c_value_Do_1 ?_
  unfold b_value_Do_1
  have oW := ok.old hW
  simp [fnCells, hW, oW]
  refine OpsR.cut (fun h1 => Grows Nob h h1 ∧ h1.tr.get (h.next + 1) = some (.blk [.string ⟨⟨[]⟩⟩, .int .i64 0, .int .i64 0, .slice none 0 0] false 0 0)) ?_ ?_
  · exact ⟨((Grows.refl ok).new _ _).new _ _, by simp [Nat.add_assoc]⟩
  rintro h1 ⟨g1, hR1⟩
  obtain ⟨list, b, s, bl, hn0, hb, hsl, hne⟩ := w
  have lb := (ok.old hb).lt
  have C := doof_does g1.ok (name := name) (p := p) (w := ⟨list, b, s, bl, hn0, g1.get ok hb (fun h => h), hsl.grow ok g1 (fun _ _ h => h), hne⟩) hw hpN hN hlen
  refine OpsR.call (V := fun v h' => Grows (BlkOf blocks.v) h1 h' ∧ ∃ (B L : SV) (R : Nat), v = .agg ⟨fnCells name p R B⟩ ∧ R ≤ N ∧ OneW h1.next h' B L false n ∧ L.l = (runV (initV N) xs).kept.length) (by simpa [fnCells] using C) ?_
  rintro _ h2 ⟨g2, B, L, R, rfl, hR, hB, hL⟩
  have hbb : ∀ c, BlkOf blocks.v c → c = b := by rintro c ⟨off, m, cap, e⟩; simp [bl.1] at e; omega
  have hR2 := g2.get g1.ok hR1 (fun e => by have := hbb _ e; omega)
  have lt1 : h.next + 1 < h1.next := g1.ok.old hR1
  obtain ⟨e1, b2, o2, s2, e3, e4, e5⟩ := hB
  have nb : ¬ b2 = h.next + 1 := by omega
  simp [fnCells, hR2]
  exact ⟨(g1.nob.trans g2).put ⟨_, hR2⟩ (.inl (by omega)), B, L, R, ⟨rfl, rfl, rfl, rfl⟩, hR, ⟨e1, b2, o2, s2, e3, by omega, by simp [nb]; exact e5⟩, hL⟩

theorem OneW.weak {n0 n1 : Nat} {h : Heap} {blocks list : SV} {r : Bool} {n : Int} (w : OneW n0 h blocks list r n) (hn : n1 ≤ n0) : OneW n1 h blocks list r n := by
  obtain ⟨h1, b, o, s, h2, h3, h4⟩ := w
  exact ⟨h1, b, o, s, h2, Nat.le_trans hn h3, h4⟩

theorem do_one {h : Heap} (ok : HOk h) {n0 Wd ow sw p N : Nat} {rw_ : Bool} {name : ByteArray} {blocks : SV} {n : Int} {xs : List Own} (hW : h.tr.get Wd = some (.blk [.int .i64 0] rw_ ow sw)) (w : OwnFn n0 h blocks false n xs) (hn : n0 ≤ h.next) (hw : Walkable N xs) (hpN : p ≤ N) (hN : N < 1000) (hlen : xs.length < 1000) :
    DoesV FF (.func (.func n_value_Do_1) #[] #[.pointer (some ⟨Wd, 0, none⟩)]) [.agg ⟨fnCells name p N blocks⟩] h (fun v h' => Grows (fun x => n0 ≤ x) h h' ∧ ∃ (R : Nat) (B L : SV), v = .agg ⟨fnCells name p R B⟩ ∧ R ≤ N ∧ OneW n0 h' B L false n ∧ L.l = (runV (initV N) xs).kept.length) := by
  refine (clos_does ok (name := name) hW w hn hw hpN hN hlen).mono ?_
  rintro v h' ⟨g, B, L, R, e, hR, hB, hL⟩
  refine ⟨g.weak fun c _ hc => ?_, R, B, L, e, hR, OneW.weak hB hn, hL⟩
  obtain ⟨off, m, cap, e⟩ := hc
  simp [w.bl.1] at e
  have := w.fr
  omega

def encF : Enc (ByteArray × Int × Int × SV) := ⟨fun x => fnCells x.1 x.2.1 x.2.2.1 x.2.2.2, 4, fun _ => rfl, by decide, fun _ => rfl⟩
@[simp] theorem encF_sz : encF.sz = 4 := rfl

theorem each_two {h : Heap} (ok : HOk h) {Wd ow sw : Nat} {rw_ : Bool} {mB fB : SV} {Fb fc o s N : Nat} {ro : Bool} {n1 n2 : Int} {xs : List Own} (m : FnOk h 0 0 mB false n1 []) (f : FnOk h 1 N fB false n2 xs) (hN : N ≤ 100) (hq : ∀ (j : Nat) x, xs[j]? = some x → 2 ≤ x.op ∧ x.op ≤ 15)
    (hW : h.tr.get Wd = some (.blk [.int .i64 0] rw_ ow sw))
    (hF : h.tr.get Fb = some (.blk (fnCells sMain 0 0 mB ++ fnCells sF 1 N fB) ro o s)) :
    Does FF n_graph_Each [.agg ⟨[.slice none 0 0, .slice (some ⟨Fb, 0, none⟩) 2 fc]⟩, .func (.func n_value_Do_1) #[] #[.pointer (some ⟨Wd, 0, none⟩)]] h
      (fun v h' => Grows Nob h h' ∧ ∃ d c s R, ∃ B1 B2 list : SV, v = .tuple #[.agg ⟨[.slice none 0 0, .slice (some ⟨d, 0, none⟩) 2 c]⟩, .agg #[.int .i64 0, .int .i64 0]] ∧ h.next ≤ d ∧ h'.tr.get d = some (.blk (fnCells sMain 0 0 B1 ++ fnCells sF 1 (R : Nat) B2) false 4 s) ∧ OneW h.next h' B2 list false n2 ∧ list.l = (runV (initV N) xs).kept.length) := by
  have w1 : IntKind.i64.wrap (0 + 1) = 1 := wrap_i64 _ (by omega) (by omega)
  have w1' : IntKind.i64.wrap 1 = 1 := wrap_i64 _ (by omega) (by omega)
  have w2 : IntKind.i64.wrap (1 + 1) = 2 := wrap_i64 _ (by omega) (by omega)
  have w2' : IntKind.i64.wrap 2 = 2 := wrap_i64 _ (by omega) (by omega)
  refine Does.of c_graph_Each ?_
  unfold b_graph_Each
  have e2 : ¬ h.next = h.next + 1 + 1 := by omega
  simp [e2]
  refine OpsR.cut (fun h1 => Grows Nob h h1 ∧ (∃ s, h1.tr.get h.next = some (.blk [.slice none 0 0, .slice (some ⟨Fb, 0, none⟩) 2 fc] false 0 s)) ∧ h1.tr.get (h.next + 1) = some (.blk [.slice none 0 0, .slice none 0 0] false 0 0) ∧ h1.tr.get (h.next + 1 + 1) = some (.blk [.int .i64 0, .int .i64 0] false 0 0)) ?_ ?_
  · exact ⟨(((Grows.refl ok).new _ _).new _ _).new _ _, ⟨0, by simp [Nat.add_assoc]⟩, by simp [Nat.add_assoc], by simp [Nat.add_assoc]⟩
  rintro h1 ⟨g1, ⟨s1, hU1⟩, hR1, hE1⟩
  refine OpsR.call (V := fun v h' => v = .slice none 0 0 ∧ h' = h1) (by simpa using clone_nil (bytes := 48) c_slices_Clone_api_Global_api_Global h1 0) ?_
  rintro _ h1' ⟨rfl, eh⟩
  rw [eh]
  have nUR : ¬ h.next + 1 = h.next := by omega
  have nUE : ¬ h.next + 1 + 1 = h.next := by omega
  simp [hU1]
  refine Runs.cut (fun h2 => Grows Nob h h2 ∧ h2.next = h1.next ∧ (∃ s, h2.tr.get h.next = some (.blk [.slice none 0 0, .slice (some ⟨Fb, 0, none⟩) 2 fc] false 0 s)) ∧ h2.tr.get (h.next + 1) = some (.blk [.slice none 0 0, .slice none 0 0] false 0 0) ∧ h2.tr.get (h.next + 1 + 1) = some (.blk [.int .i64 0, .int .i64 0] false 0 0)) ?_ ?_
  · exact ⟨g1.put ⟨_, hU1⟩ (.inl (Nat.le_refl _)), rfl, ⟨h1.clock, by simp⟩, by simpa [nUR] using hR1, by simpa [nUE] using hE1⟩
  rintro h2 ⟨g2, hn2, ⟨s2, hU2⟩, hR2, hE2⟩
  rw [runs_loop]
  unfold r_graph_Each_1
  simp [hU2]
  have m2 := m.grow ok g2
  have f2 := f.grow ok g2
  have hF2 := g2.get ok hF (fun h => h)
  have hsF : SliceOf encF h2 (SV.v ⟨some ⟨Fb, 0, none⟩, 2, fc⟩) [(sMain, 0, 0, mB), (sF, 1, (N : Int), fB)] := ⟨_, fc, rfl, .inr ⟨Fb, 0, _, _, _, _, rfl, hF2, by simp [fnCells], by simp [encF, Enc.flat, fnCells]⟩⟩
  refine OpsR.call (V := fun v h' => Grows Nob h2 h' ∧ ∃ w : SV, v = w.v ∧ NewOf encF h2.next h' w [(sMain, 0, 0, mB), (sF, 1, (N : Int), fB)]) ?_ ?_
  · have C := (clone_does encF (bytes := 56) c_slices_Clone_api_Func_api_Func rfl (by decide) g2.ok hsF (by simp)).mono (R' := fun v h' => Grows Nob h2 h' ∧ ∃ w : SV, v = w.v ∧ NewOf encF h2.next h' w [(sMain, 0, 0, mB), (sF, 1, (N : Int), fB)]) (fun v h' ⟨g, w, e, k, _⟩ => ⟨g, w, e, k⟩)
    simpa using C
  rintro _ h3 ⟨g3, w, rfl, hw⟩
  have gg3 := g2.trans g3
  obtain ⟨hwl, hw⟩ := hw
  rcases hw with ⟨e, _⟩ | ⟨_, d, s3, hwa, hwd, hD3⟩
  · cases e
  have hwl2 : w.l = 2 := hwl
  have hD3' : h3.tr.get d = some (.blk [.string sMain, .int .i64 0, .int .i64 0, .slice mB.a mB.l mB.c, .string sF, .int .i64 1, .int .i64 N, .slice fB.a fB.l fB.c] false 4 s3) := by rw [hD3]; simp [encF, Enc.flat, fnCells]
  have hU3 := g3.get g2.ok hU2 (fun h => h)
  have lt2 : h.next + 1 + 1 < h2.next := g2.ok.old hE2
  have nDU : ¬ d = h.next := by omega
  have nDR : ¬ h.next + 1 = d := by omega
  simp [hU3, hwl2, hwa]
  refine Runs.cut (fun h4 => Grows Nob h h4 ∧ h4.next = h3.next ∧ (∃ s, h4.tr.get h.next = some (.blk [.slice none 0 0, .slice (some ⟨d, 0, none⟩) 2 w.c] false 0 s)) ∧ h4.tr.get (h.next + 1) = some (.blk [.slice none 0 0, .slice none 0 0] false 0 0) ∧ h4.tr.get (h.next + 1 + 1) = some (.blk [.int .i64 0, .int .i64 0] false 0 0) ∧ h4.tr.get d = some (.blk [.string sMain, .int .i64 0, .int .i64 0, .slice mB.a mB.l mB.c, .string sF, .int .i64 1, .int .i64 N, .slice fB.a fB.l fB.c] false 4 s3)) ?_ ?_
  · exact ⟨gg3.put ⟨_, hU3⟩ (.inl (Nat.le_refl _)), rfl, ⟨h3.clock, by simp⟩, by simpa [nUR] using g3.get g2.ok hR2 (fun h => h), by simpa [nUE] using g3.get g2.ok hE2 (fun h => h), by simpa [nDU] using hD3'⟩
  rintro h4 ⟨g4, hn4, ⟨s4, hU4⟩, hR4, hE4, hD4⟩
  have oD4 := g4.ok.old hD4
  rw [runs_loop]
  unfold r_graph_Each_0
  simp [hD4, oD4]
  refine OpsR.cut (fun h5 => Grows Nob h4 h5 ∧ ∃ s, h5.tr.get h4.next = some (.blk [.string sMain, .int .i64 0, .int .i64 0, .slice mB.a mB.l mB.c] false 0 s)) ?_ ?_
  · exact ⟨((Grows.refl g4.ok).new _ _).put ⟨0, by simp⟩ (.inl (by omega)), h4.clock, by simp⟩
  rintro h5 ⟨g5, s5, hV5⟩
  have gg5 := g4.trans g5
  have lt4 := g5.ok.old hV5
  refine OpsR.call (V := fun v h' => Grows Nob h5 h' ∧ ∃ B : SV, v = .agg ⟨fnCells sMain 0 0 B⟩ ∧ Nonempty (OwnFn h5.next h' B false n1 [])) (by simpa [fnCells] using copy_one gg5.ok (name := sMain) (m.grow ok gg5) (by omega)) ?_
  rintro _ h6 ⟨g6, B, rfl, ⟨ow1⟩⟩
  have gg6 := gg5.trans g6
  refine OpsR.callV (V := fun v h' => Grows (fun x => h5.next ≤ x) h6 h' ∧ ∃ (R : Nat) (B L : SV), v = .agg ⟨fnCells sMain 0 R B⟩ ∧ R ≤ 0 ∧ OneW h5.next h' B L false n1 ∧ L.l = 0) ?_ ?_
  · have C := do_one gg6.ok (name := sMain) (p := 0) (N := 0) (gg6.get ok hW (fun h => h)) ow1 g6.next ⟨by simp, by simp, .nil⟩ (by omega) (by omega) (by simp)
    rw [show (runV (initV 0) []).kept = [] from rfl] at C
    simpa [fnCells] using C
  rintro _ h7 ⟨g7, R1, B1, L1, rfl, hR1', hB1, hL1⟩
  obtain rfl : R1 = 0 := by omega
  have hV7 := g7.get gg6.ok (g6.get gg5.ok hV5 (fun h => h)) (by have := lt4.lt; omega)
  have g47 : Grows Nob h4 h7 := (g5.trans g6).trans' g7 (fun _ _ h => h) (by intro x _ hx; have := lt4.lt; omega)
  simp [fnCells, hV7]
  obtain ⟨eB1, bB1, oB1, sB1, aB1, lB1, hbB1⟩ := hB1
  have ltB1 : ¬ bB1 = h4.next := by have := lt4.lt; omega
  refine OpsR.cut (fun h8 => Grows Nob h4 h8 ∧ (∃ s, h8.tr.get h4.next = some (.blk [.string sMain, .int .i64 0, .int .i64 0, .slice B1.a B1.l B1.c] false 0 s)) ∧ OneW h4.next h8 B1 L1 false n1) ?_ ?_
  · exact ⟨g47.put ⟨_, hV7⟩ (.inl (Nat.le_refl _)), ⟨h7.clock, by simp⟩, ⟨eB1, bB1, oB1, sB1, aB1, by have := lt4.lt; omega, by simpa [ltB1] using hbB1⟩⟩
  rintro h8 ⟨g8, ⟨s8, hV8⟩, hB8⟩
  refine OpsR.call (by simpa [fnCells] using large_one (g4.trans g8).ok (name := sMain) (p := 0) (N := 0) hB8.one (by omega) (by omega)) ?_
  rintro _ h9 ⟨rfl, g9⟩
  have g49 := g8.trans g9
  have hV9 := g9.get g8.ok hV8 (fun h => h)
  have hU9 := g49.get g4.ok hU4 (fun h => h)
  have hD9 := g49.get g4.ok hD4 (fun h => h)
  have nDU' : ¬ h.next = d := fun e => nDU e.symm
  have nVD : ¬ h4.next = d := by have := oD4.lt; omega
  have nED : ¬ h.next + 1 + 1 = d := by omega
  simp [hV9, hU9, hD9, w1, w1']
  refine Runs.cut (fun h10 => Grows Nob h h10 ∧ (∃ s, h10.tr.get h.next = some (.blk [.slice none 0 0, .slice (some ⟨d, 0, none⟩) 2 w.c] false 0 s)) ∧ h10.tr.get (h.next + 1) = some (.blk [.slice none 0 0, .slice none 0 0] false 0 0) ∧ h10.tr.get (h.next + 1 + 1) = some (.blk [.int .i64 0, .int .i64 0] false 0 0) ∧ ∃ s, h10.tr.get d = some (.blk [.string sMain, .int .i64 0, .int .i64 0, .slice B1.a B1.l B1.c, .string sF, .int .i64 1, .int .i64 N, .slice fB.a fB.l fB.c] false 4 s)) ?_ ?_
  · exact ⟨(g4.trans g49).put ⟨_, hD9⟩ (.inl (by omega)), ⟨s4, by simpa [nDU'] using hU9⟩, by simpa [nDR] using g49.get g4.ok hR4 (fun h => h), by simpa [nED] using g49.get g4.ok hE4 (fun h => h), h9.clock, by simp⟩
  rintro k4 ⟨gk4, ⟨t4, hU4⟩, hR4, hE4, t5, hD4⟩
  have oD4 := gk4.ok.old hD4
  rw [runs_loop]
  try unfold r_graph_Each_0
  simp [hD4, oD4]
  refine OpsR.cut (fun h5 => Grows Nob k4 h5 ∧ ∃ s, h5.tr.get k4.next = some (.blk [.string sF, .int .i64 1, .int .i64 N, .slice fB.a fB.l fB.c] false 0 s)) ?_ ?_
  · exact ⟨((Grows.refl gk4.ok).new _ _).put ⟨0, by simp⟩ (.inl (by omega)), k4.clock, by simp⟩
  rintro k5 ⟨j5, t5', hY5⟩
  have jj5 := gk4.trans j5
  have lk4 := j5.ok.old hY5
  refine OpsR.call (V := fun v h' => Grows Nob k5 h' ∧ ∃ B : SV, v = .agg ⟨fnCells sF 1 N B⟩ ∧ Nonempty (OwnFn k5.next h' B false n2 xs)) (by simpa [fnCells] using copy_one jj5.ok (name := sF) (f.grow ok jj5) (by omega)) ?_
  rintro _ k6 ⟨j6, B', rfl, ⟨ow2⟩⟩
  have jj6 := jj5.trans j6
  refine OpsR.callV (V := fun v h' => Grows (fun x => k5.next ≤ x) k6 h' ∧ ∃ (R : Nat) (B L : SV), v = .agg ⟨fnCells sF 1 R B⟩ ∧ R ≤ N ∧ OneW k5.next h' B L false n2 ∧ L.l = (runV (initV N) xs).kept.length) ?_ ?_
  · have C := do_one jj6.ok (name := sF) (p := 1) (N := N) (jj6.get ok hW (fun h => h)) ow2 j6.next (walk_of f.ord hq f.cnt) (by have := f.cnt; omega) (by omega) (by have := f.cnt; omega)
    simpa [fnCells] using C
  rintro _ k7 ⟨j7, R2, B2, L2, rfl, hR2', hB2, hL2⟩
  have hL2' : L2.l ≤ 100 := by have := kept_le xs (initV N); simp [initV] at this; have := f.cnt; simp [initV] at hL2; omega
  have hY7 := j7.get jj6.ok (j6.get jj5.ok hY5 (fun h => h)) (by have := lk4.lt; omega)
  have j47 : Grows Nob k4 k7 := (j5.trans j6).trans' j7 (fun _ _ h => h) (by intro x _ hx; have := lk4.lt; omega)
  simp [fnCells, hY7]
  obtain ⟨eB2, bB2, oB2, sB2, aB2, lB2, hbB2⟩ := hB2
  have ltB2 : ¬ bB2 = k4.next := by have := lk4.lt; omega
  refine OpsR.cut (fun h8 => Grows Nob k4 h8 ∧ (∃ s, h8.tr.get k4.next = some (.blk [.string sF, .int .i64 1, .int .i64 R2, .slice B2.a B2.l B2.c] false 0 s)) ∧ OneW k4.next h8 B2 L2 false n2) ?_ ?_
  · exact ⟨j47.put ⟨_, hY7⟩ (.inl (Nat.le_refl _)), ⟨k7.clock, by simp⟩, ⟨eB2, bB2, oB2, sB2, aB2, by have := lk4.lt; omega, by simpa [ltB2] using hbB2⟩⟩
  rintro k8 ⟨j8, ⟨t8, hY8⟩, hC8⟩
  refine OpsR.call (by simpa [fnCells] using large_one (gk4.trans j8).ok (name := sF) (p := 1) (N := R2) hC8.one (by omega) (by omega)) ?_
  rintro _ k9 ⟨rfl, j9⟩
  have j49 := j8.trans j9
  have hY9 := j9.get j8.ok hY8 (fun h => h)
  have hU9 := j49.get gk4.ok hU4 (fun h => h)
  have hD9 := j49.get gk4.ok hD4 (fun h => h)
  have hR9 := j49.get gk4.ok hR4 (fun h => h)
  have hE9 := j49.get gk4.ok hE4 (fun h => h)
  have nDU' : ¬ h.next = d := fun e => nDU e.symm
  have nED : ¬ h.next + 1 + 1 = d := by omega
  have nEU : ¬ h.next + 1 + 1 = h.next + 1 := by omega
  have nDR' : ¬ d = h.next + 1 := fun e => nDR e.symm
  have nDE' : ¬ d = h.next + 1 + 1 := fun e => nED e.symm
  obtain ⟨eC, bC, oC, sC, aC, lC, hC⟩ := hC8
  have hC9 := j9.get j8.ok hC (fun h => h)
  have ltk : d < k4.next := oD4.lt
  have nC1 : ¬ bC = d := by omega
  have nC2 : ¬ bC = h.next + 1 := by have := gk4.ok.old hR4; have := this.lt; omega
  have nC3 : ¬ bC = h.next + 1 + 1 := by have := gk4.ok.old hE4; have := this.lt; omega
  simp [hY9, hU9, hD9, w2, w2']
  rw [runs_loop]
  try unfold r_graph_Each_0
  simp [nDU', hU9, nED, nDR, nEU, hR9, hE9]
  have gk9 := gk4.trans j49
  refine ⟨?_, by omega, k9.clock, R2, B1, B2, by simp [nDR', nDE'], L2, ⟨eC, bC, oC, sC, aC, ?_, ?_⟩, hL2⟩
  · exact ((gk9.put ⟨_, hD9⟩ (.inl (by omega))).put ⟨0, by simp [nDR, hR9]⟩ (.inl (by omega))).put ⟨0, by simp [nED, nEU, hE9]⟩ (.inl (by omega))
  · have := gk4.next; omega
  · simpa [nC1, nC2, nC3] using hC9
end Go.Proofs.YtigniafapkbbbaaGreatDoor

/- Contract: value.Do of a unit of main and one function of one block. -/
namespace Go.Proofs.YtigniafapkbbbaaGreatDoor
open Go.AI

theorem value_two {h : Heap} (ok : HOk h) (hw : Ways h) {mB fB : SV} {Fb fc o s N : Nat} {ro : Bool} {n1 n2 : Int} {xs : List Own} (m : FnOk h 0 0 mB false n1 []) (f : FnOk h 1 N fB false n2 xs) (hN : N ≤ 100) (hq : ∀ (j : Nat) x, xs[j]? = some x → 2 ≤ x.op ∧ x.op ≤ 15)
    (hF : h.tr.get Fb = some (.blk (fnCells sMain 0 0 mB ++ fnCells sF 1 N fB) ro o s)) :
    Does FF n_value_Do [.agg ⟨[.slice none 0 0, .slice (some ⟨Fb, 0, none⟩) 2 fc]⟩] h
      (fun v h' => Grows Nob h h' ∧ ∃ d c s R, ∃ B1 B2 list : SV, v = .tuple #[.agg ⟨[.slice none 0 0, .slice (some ⟨d, 0, none⟩) 2 c]⟩, .agg #[.int .i64 0, .int .i64 0]] ∧ h.next ≤ d ∧ h'.tr.get d = some (.blk (fnCells sMain 0 0 B1 ++ fnCells sF 1 (R : Nat) B2) false 4 s) ∧ OneW h.next h' B2 list false n2 ∧ list.l = (runV (initV N) xs).kept.length) := by
  refine Does.of c_value_Do ?_
  unfold b_value_Do
  have e2 : ¬ h.next = h.next + 1 + 1 := by omega
  simp [e2]
  refine OpsR.cut (fun h1 => Grows Nob h h1 ∧ (∃ s, h1.tr.get h.next = some (.blk [.slice none 0 0, .slice (some ⟨Fb, 0, none⟩) 2 fc] false 0 s)) ∧ h1.tr.get (h.next + 1) = some (.blk [.slice none 0 0, .slice none 0 0] false 0 0) ∧ h1.tr.get (h.next + 1 + 1) = some (.blk [.int .i64 0, .int .i64 0] false 0 0)) ?_ ?_
  · exact ⟨(((Grows.refl ok).new _ _).new _ _).new _ _, ⟨0, by simp [Nat.add_assoc]⟩, by simp [Nat.add_assoc], by simp [Nat.add_assoc]⟩
  rintro h1 ⟨g1, ⟨s1, hU1⟩, hR1, hE1⟩
  refine OpsR.call (by simpa using ssa_two g1.ok (hw.grow ok g1) (gl := ⟨none, 0, 0⟩) rfl (m.grow ok g1) (f.grow ok g1) hN (fc := fc) (g1.get ok hF (fun h => h))) ?_
  rintro _ h2 ⟨rfl, g2⟩
  have gg2 := g1.trans g2
  have hU2 := g2.get g1.ok hU1 (fun h => h)
  have hR2 := g2.get g1.ok hR1 (fun h => h)
  have hE2 := g2.get g1.ok hE1 (fun h => h)
  have oU2 := gg2.ok.old hU2
  simp [hU2, oU2]
  refine OpsR.cut (fun h3 => Grows Nob h2 h3) ?_ ?_
  · repeat (first | exact .refl gg2.ok | apply Grows.new | refine Grows.put ?_ (by simp) (by simp))
  intro h3 g3
  have gg3 := gg2.trans g3
  refine OpsR.call (by simpa using words_nil gg3.ok (gl := ⟨none, 0, 0⟩) rfl ⟨some ⟨Fb, 0, none⟩, 2, fc⟩) ?_
  rintro _ h4 ⟨rfl, g4⟩
  have gg4 := gg3.trans g4
  have t4 := g3.trans g4
  have hU4 := t4.get gg2.ok hU2 (fun h => h)
  have hR4 := t4.get gg2.ok hR2 (fun h => h)
  have hE4 := t4.get gg2.ok hE2 (fun h => h)
  have oU4 := gg4.ok.old hU4
  simp [hU4, oU4]
  refine OpsR.cut (fun h5 => Grows Nob h4 h5 ∧ (∃ s, h5.tr.get h4.next = some (.blk [.int .i64 0] false 0 s))) ?_ ?_
  · exact ⟨((Grows.refl gg4.ok).new _ _).put ⟨0, by simp⟩ (.inl (by omega)), h4.clock, by simp⟩
  rintro h5 ⟨g5, s5, hW5⟩
  have gg5 := gg4.trans g5
  refine OpsR.call (V := fun v h' => Grows Nob h5 h' ∧ ∃ d c s R, ∃ B1 B2 list : SV, v = .tuple #[.agg ⟨[.slice none 0 0, .slice (some ⟨d, 0, none⟩) 2 c]⟩, .agg #[.int .i64 0, .int .i64 0]] ∧ h5.next ≤ d ∧ h'.tr.get d = some (.blk (fnCells sMain 0 0 B1 ++ fnCells sF 1 (R : Nat) B2) false 4 s) ∧ OneW h5.next h' B2 list false n2 ∧ list.l = (runV (initV N) xs).kept.length) (by simpa using each_two gg5.ok (fc := fc) (m.grow ok gg5) (f.grow ok gg5) hN hq hW5 (gg5.get ok hF (fun h => h))) ?_
  rintro _ h6 ⟨g6, d, c, s6, R, B1, B2, L, rfl, hd, hD6, ⟨e1, b, o6, s7, e3, e4, e5⟩, hL⟩
  have t6 := g5.trans g6
  have hR6 := t6.get gg4.ok hR4 (fun h => h)
  have hE6 := t6.get gg4.ok hE4 (fun h => h)
  have lt5 : h.next + 1 + 1 < h5.next := gg5.ok.old (t6.get gg4.ok hE4 (fun h => h) |> fun _ => g5.get gg4.ok hE4 (fun h => h))
  have nER : ¬ h.next + 1 + 1 = h.next + 1 := by omega
  have n1 : ¬ d = h.next + 1 := by omega
  have n2 : ¬ d = h.next + 1 + 1 := by omega
  have n3 : ¬ b = h.next + 1 := by omega
  have n4 : ¬ b = h.next + 1 + 1 := by omega
  simp [hR6, hE6, nER]
  have gg6 := gg5.trans g6
  refine ⟨?_, by omega, s6, R, B1, B2, by simpa [n1, n2] using hD6, L, ⟨e1, b, o6, s7, e3, by omega, by simpa [n3, n4] using e5⟩, hL⟩
  exact (gg6.put ⟨_, hR6⟩ (.inl (by omega))).put ⟨0, by simp [nER, hE6]⟩ (.inl (by omega))
end Go.Proofs.YtigniafapkbbbaaGreatDoor
