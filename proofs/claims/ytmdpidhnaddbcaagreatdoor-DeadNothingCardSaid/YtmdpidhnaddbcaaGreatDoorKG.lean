/- Contracts: dead.taken, dead.needed of a function of one block of quiet instructions that returns a number. -/
import Derived.Test.YtmdpidhnaddbcaaGreatDoorKF
namespace Go.Proofs.YtmdpidhnaddbcaaGreatDoor
open Go.AI

theorem length_repl' (z : List Value) (n : Nat) : (repl z n).length = n * z.length := by
  induction n with
  | zero => simp [repl]
  | succ n ih => simp [repl, ih, Nat.add_mul]; omega

theorem length_repl1 (v : Value) (n : Nat) : (repl [v] n).length = n := by rw [length_repl']; simp
theorem taken_one {h : Heap} (ok : HOk h) {name : ByteArray} {p N : Nat} {blocks : SV} {r : Bool} {n : Int} {xs : List Own} (f : FnOk h p N blocks r n xs) (hN : N < 100000) :
    Does FF n_dead_taken [.agg ⟨fnCells name p N blocks⟩] h (fun v h' => Grows Nob h h' ∧ ∃ d, v = .slice (some ⟨d, 0, none⟩) N N) := by
  obtain ⟨hl, b, ro, o, s, ha, hb⟩ := id f.one
  have w1 : IntKind.i64.wrap (0 + 1) = 1 := wrap_i64 _ (by omega) (by omega)
  have w1' : IntKind.i64.wrap 1 = 1 := wrap_i64 _ (by omega) (by omega)
  have hcnt := f.cnt
  have hll := f.llen
  have r1 : roomy N = true := by simp [roomy]; omega
  have r2 : roomy (N * 24) = true := by simp [roomy]; omega
  have oB := ok.old hb
  have hb' : h.tr.get b = some (.blk [.slice none 0 0, .slice f.list.a xs.length f.list.c, .int .i64 1, .bool r, .int .i64 n, .slice none 0 0] ro o s) := by rw [hb]; simp [blkCells, f.hpn, f.htn, hll]
  refine Does.of c_dead_taken ?_
  unfold b_dead_taken
  simp [fnCells, hl, ha, r1, r2]
  refine Runs.cut (fun h1 => Grows Nob h h1 ∧ h1.next = h.next + 2 ∧ ∃ cells s, cells.length = N ∧ h1.tr.get (h.next + 1) = some (.blk cells false 0 s)) ⟨((Grows.refl ok).new _ _).new _ _, rfl, repl [.slice none 0 0] N, 0, length_repl1 _ _, by simp⟩ ?_
  rintro h1 ⟨g1, hn1, cells1, s1, hcl1, hO1⟩
  have hb1 := g1.get ok hb' (fun h => h)
  have ob1 := g1.ok.old hb1
  rw [runs_loop]
  unfold r_dead_taken_2
  simp [hb1, ob1]
  rw [runs_loop]
  unfold r_dead_taken_1
  simp
  refine Runs.cut (fun h2 => Grows Nob h h2 ∧ h.next + 1 < h2.next ∧ ∃ cells s, cells.length = N ∧ h2.tr.get (h.next + 1) = some (.blk cells false 0 s)) ?_ ?_
  · exact ⟨g1.var _ _, by simp [hn1], cells1, s1, hcl1, by simp [hO1, hn1]⟩
  rintro h2 ⟨g2, hn2, hO2⟩
  refine Runs.loop (fun m e h3 => ∃ j : Nat, m = xs.length - j ∧ j ≤ xs.length ∧ Env.get e 3 = .slice (some ⟨h.next + 1, 0, none⟩) N N ∧ Env.get e 15 = .int .i64 1 ∧ Env.get e 16 = .int .i64 0 ∧ Env.get e 35 = .slice f.list.a xs.length f.list.c ∧ Env.get e 36 = .int .i64 xs.length ∧ Env.get e 37 = .int .i64 j ∧
      Grows Nob h h3 ∧ h.next + 1 < h3.next ∧ ∃ cells s, cells.length = N ∧ h3.tr.get (h.next + 1) = some (.blk cells false 0 s)) ?_ (n := xs.length) ⟨0, rfl, by omega, by simp, by simp, by simp, by simp, by simp, by simp, g2, hn2, hO2⟩
  rintro m e h3 ⟨j, rfl, hj, f3, f15, f16, f35, f36, f37, g3, hn3, cells3, s3, hcl3, hO3⟩
  unfold r_dead_taken_0
  by_cases hjl : j < xs.length
  · have hxj : xs[j]? = some xs[j] := List.getElem?_eq_getElem hjl
    have hs3 : SliceOf encOwn h3 (.slice f.list.a xs.length f.list.c) xs := by have := f.sl.nob ok g3; rw [SV.v_def, hll] at this; exact this
    obtain ⟨b', off, cap', hv', _, ⟨csb, rob, obb, sbb, hbb⟩, hrd⟩ := hs3.read hxj
    injection hv' with hv1 hv2 hv3
    have hr0 := hrd 0 8 (by simp)
    simp only [encOwn_sz, Nat.add_zero] at hr0
    have ob3 := g3.ok.old hbb
    have q := f.ord j _ hxj
    obtain ⟨d, hd⟩ : ∃ d, d = p + j := ⟨_, rfl⟩
    have hdst : xs[j].dst = (d : Int) := by rw [q.dst, hd, Nat.add_comm]
    have hdN : d < N := by omega
    obtain ⟨j', hj'⟩ : ∃ j', j' = j + 1 := ⟨_, rfl⟩
    have wj : IntKind.i64.wrap ((j : Int) + 1) = (j' : Int) := by rw [wrap_i64 _ (by omega) (by omega)]; omega
    simp [f3, f15, f16, f35, f36, f37, hjl, hv1, hr0, hdst, readAt_put_same, readAt_put, readAt_newBlk, readAt_tick, -readAt_def]
    refine DrawR.cut (fun h4 => Grows Nob h3 h4 ∧ h4.tr.get h3.next = some (.blk [.int .i64 xs[j].op, .int .i64 d, .bool xs[j].ar, .int .i64 xs[j].an, .bool xs[j].br, .int .i64 xs[j].bn, .int .i64 0, .slice none 0 0] false 0 h3.clock)) ?_ ?_
    · exact ⟨((Grows.refl g3.ok).var _ _).tick, by simp⟩
    rintro h4 ⟨g4, hx4⟩
    have gg4 := g3.trans g4
    refine DrawR.call (V := fun v h' => v = .func (.func n_core_Vals_1) #[] #[.pointer (some ⟨h4.next, 0, none⟩)] ∧ h' = newBlk h4 (insCells xs[j].op d xs[j].ar xs[j].an xs[j].br xs[j].bn 0 (.slice none 0 0)) 0) (by simpa [insCells] using vals_does h4 (insCells xs[j].op d xs[j].ar xs[j].an xs[j].br xs[j].bn 0 (.slice none 0 0)) rfl rfl) ?_
    rintro _ h5 ⟨rfl, e5⟩
    have g5 : Grows Nob h4 h5 := by rw [e5]; exact grow_newBlk gg4.ok _ _
    have hX5 : h5.tr.get h4.next = some (.blk (insCells xs[j].op d xs[j].ar xs[j].an xs[j].br xs[j].bn 0 (SV.v ⟨none, 0, 0⟩)) false 0 0) := by rw [e5]; exact get_newBlk _ _ _
    clear e5
    have gg5 := gg4.trans g5
    simp
    refine DrawR.call (by simpa using collect_does gg5.ok hX5 q.op rfl) ?_
    rintro v6 h6 ⟨g6, w, hw⟩
    have gg6 := gg5.trans g6
    have hx6 := (g5.trans g6).get gg4.ok hx4 (fun h => h)
    have hO6 := ((g4.trans g5).trans g6).get g3.ok hO3 (fun h => h)
    have hdc : d + 1 ≤ cells3.length := by omega
    have hw' : v6 = .slice w.a w.l w.c := by simpa using hw
    simp [hx6, hw', hdN, hO6, hdc, f3, f15, f16, f35, f36, f37, wj]
    refine ⟨xs.length - j', by omega, j', rfl, by omega, hv1, rfl, ?_, ?_, ?_⟩
    · exact gg6.put ⟨_, hO6⟩ (.inl (by omega))
    · have := ((g4.trans g5).trans g6).next; omega
    · simp [splice]; omega
  · have : j = xs.length := by omega
    subst this
    simp [f3, f15, f16, f35, f36, f37, w1, w1']
    rw [runs_loop]
    try unfold r_dead_taken_2
    simp [f15, f3]
    exact g3
end Go.Proofs.YtmdpidhnaddbcaaGreatDoor

/- Contract: dead.needed of a function of one block of quiet instructions that returns a number: nothing is needed. -/
namespace Go.Proofs.YtmdpidhnaddbcaaGreatDoor
open Go.AI

theorem quiet_of {x : Own} (h : 2 ≤ x.op ∧ x.op ≤ 15) (h5 : x.op ≠ 5) (h6 : x.op ≠ 6) : quietM 0 x.op x.ar x.an x.br x.bn = true := by
  unfold quietM
  rw [if_neg (by omega), if_neg (by omega)]
  simp; omega

theorem mark_number {h : Heap} (ok : HOk h) (n : Int) (a b c : Value) : Does FF n_dead_needed_1 [.agg ⟨[.bool false, .int .i64 n]⟩, a, b, c] h (fun v h' => Grows Nob h h') := by
  refine Does.of c_dead_needed_1 ?_
  unfold b_dead_needed_1
  simp
  exact grow_newBlk ok _ _

theorem needed_one {h : Heap} (ok : HOk h) {name : ByteArray} {p N : Nat} {blocks : SV} {n : Int} {xs : List Own} (f : FnOk h p N blocks false n xs) (hN : N < 100000) (hq : ∀ (j : Nat) x, xs[j]? = some x → x.op ≠ 5 ∧ x.op ≠ 6) :
    Does FF n_dead_needed [.int .i64 0, .agg ⟨fnCells name p N blocks⟩] h (fun v h' => Grows Nob h h' ∧ ∃ d s, v = .slice (some ⟨d, 0, none⟩) N N ∧ h.next ≤ d ∧ h'.tr.get d = some (.blk (repl [.bool false] N) false 0 s)) := by
  obtain ⟨hl, b, ro, o, s, ha, hb⟩ := id f.one
  have w1 : IntKind.i64.wrap (0 + 1) = 1 := wrap_i64 _ (by omega) (by omega)
  have w1' : IntKind.i64.wrap 1 = 1 := wrap_i64 _ (by omega) (by omega)
  have hcnt := f.cnt
  have hll := f.llen
  have r1 : roomy N = true := by simp [roomy]; omega
  have oB := ok.old hb
  have hb' : h.tr.get b = some (.blk [.slice none 0 0, .slice f.list.a xs.length f.list.c, .int .i64 1, .bool false, .int .i64 n, .slice none 0 0] ro o s) := by rw [hb]; simp [blkCells, f.hpn, f.htn, hll]
  refine Does.of c_dead_needed ?_
  unfold b_dead_needed
  have e2 : ¬ h.next = h.next + 1 + 1 := by omega
  simp [fnCells, hl, ha, r1, e2]
  refine OpsR.cut (fun h1 => Grows Nob h h1 ∧ (∃ s, h1.tr.get (h.next + 1) = some (.blk (repl [.bool false] N) false 0 s)) ∧ (∃ s, h1.tr.get (h.next + 1 + 1) = some (.blk [.slice (some ⟨h.next + 1, 0, none⟩) N N] false 0 s)) ∧
      h1.tr.get h.next = some (.blk [.string name, .int .i64 p, .int .i64 N, .slice (some ⟨b, 0, none⟩) 1 blocks.c] false 0 0)) ?_ ?_
  · exact ⟨(((Grows.refl ok).new _ _).new _ _).var _ _, ⟨0, by simp [Nat.add_assoc]⟩, ⟨h.clock, by simp [Nat.add_assoc]⟩, by simp [Nat.add_assoc]⟩
  rintro h1 ⟨g1, ⟨s1, hn1⟩, ⟨s2, hv1⟩, hF1⟩
  refine OpsR.call (by simpa [fnCells, hl, ha] using taken_one g1.ok (name := name) (f.grow ok g1) hN) ?_
  rintro _ h2 ⟨g2, d2, rfl⟩
  have gg2 := g1.trans g2
  have hF2 := g2.get g1.ok hF1 (fun h => h)
  have oF2 := gg2.ok.old hF2
  have hb2 := gg2.get ok hb' (fun h => h)
  have ob2 := gg2.ok.old hb2
  have hv2 := g2.get g1.ok hv1 (fun h => h)
  have hn2 := g2.get g1.ok hn1 (fun h => h)
  simp [hF2, oF2]
  refine Runs.cut (fun h3 => Grows Nob h2 h3 ∧ ∃ s, h3.tr.get (h2.next + 1) = some (.blk [.func (.func n_dead_needed_1) #[] #[.pointer (some ⟨h.next + 1 + 1, 0, none⟩), .pointer (some ⟨h2.next, 0, none⟩), .pointer (some ⟨h2.next + 1, 0, none⟩)]] false 0 s)) ?_ ?_
  · exact ⟨((Grows.refl gg2.ok).var _ _).var _ _, h2.clock + 1, by simp [Nat.add_assoc]⟩
  rintro h3 ⟨g3, s3, hm3⟩
  have gg3 := gg2.trans g3
  have hb3 := g3.get gg2.ok hb2 (fun h => h)
  have ob3 := gg3.ok.old hb3
  rw [runs_loop]
  unfold r_dead_needed_1
  simp [hb3, ob3]
  refine Runs.cut (fun h4 => Grows Nob h3 h4 ∧ ∃ s, h4.tr.get h3.next = some (.blk [.slice none 0 0, .slice f.list.a xs.length f.list.c, .int .i64 1, .bool false, .int .i64 n, .slice none 0 0] false 0 s)) ?_ ?_
  · exact ⟨(Grows.refl gg3.ok).var _ _, h3.clock, by simp⟩
  rintro h4 ⟨g4, s4, hb4⟩
  have gg4 := gg3.trans g4
  refine Runs.loop (fun m e h5 => ∃ j : Nat, m = xs.length - j ∧ j ≤ xs.length ∧ Env.get e 0 = .int .i64 0 ∧ Env.get e 5 = .pointer (some ⟨h.next + 1 + 1, 0, none⟩) ∧ Env.get e 7 = .pointer (some ⟨h2.next + 1, 0, none⟩) ∧ Env.get e 9 = .pointer (some ⟨h3.next, 0, none⟩) ∧ Env.get e 21 = .int .i64 1 ∧ Env.get e 22 = .int .i64 0 ∧
      Env.get e 27 = .slice f.list.a xs.length f.list.c ∧ Env.get e 28 = .int .i64 xs.length ∧ Env.get e 29 = .int .i64 j ∧ Grows Nob h4 h5) ?_ (n := xs.length) ⟨0, rfl, by omega, by simp, by simp, by simp, by simp, by simp, by simp, by simp, by simp, by simp, .refl gg4.ok⟩
  rintro m e h5 ⟨j, rfl, hj, f0, f5, f7, f9, f21, f22, f27, f28, f29, g5⟩
  have gg5 := gg4.trans g5
  unfold r_dead_needed_0
  by_cases hjl : j < xs.length
  · have hxj : xs[j]? = some xs[j] := List.getElem?_eq_getElem hjl
    have hs5 : SliceOf encOwn h5 (.slice f.list.a xs.length f.list.c) xs := by have := f.sl.nob ok gg5; rw [SV.v_def, hll] at this; exact this
    obtain ⟨b', off, cap', hv', _, ⟨csb, rob, obb, sbb, hbb⟩, hrd⟩ := hs5.read hxj
    injection hv' with hq1 hq2 hq3
    have hr0 := hrd 0 8 (by simp)
    simp only [encOwn_sz, Nat.add_zero] at hr0
    have q := f.ord j _ hxj
    obtain ⟨j', hj'⟩ : ∃ j', j' = j + 1 := ⟨_, rfl⟩
    have wj : IntKind.i64.wrap ((j : Int) + 1) = (j' : Int) := by rw [wrap_i64 _ (by omega) (by omega)]; omega
    simp [f0, f5, f7, f9, f21, f22, f27, f28, f29, hjl, hq1, hr0, readAt_put_same, -readAt_def]
    refine OpsR.cut (fun h6 => Grows Nob h5 h6) ?_ ?_
    · exact (Grows.refl gg5.ok).var _ _
    intro h6 g6
    have gg6 := gg5.trans g6
    have hQ := quiet_does h6 gg6.ok 0 xs[j].op xs[j].dst xs[j].an xs[j].bn 0 xs[j].ar xs[j].br none 0 0 (by omega)
    rw [quiet_of q.op (hq j _ hxj).1 (hq j _ hxj).2] at hQ
    refine OpsR.call (by simpa [insCells] using hQ) ?_
    rintro _ h7 ⟨rfl, g7⟩
    simp [f0, f5, f7, f9, f21, f22, f27, f28, f29, wj]
    exact ⟨xs.length - j', by omega, j', rfl, by omega, hq1, rfl, (g5.trans g6).trans g7⟩
  · have : j = xs.length := by omega
    subst this
    have hm5 := (g4.trans g5).get gg3.ok hm3 (fun h => h)
    have hb5 := g5.get gg4.ok hb4 (fun h => h)
    simp [f0, f5, f7, f9, f21, f22, f27, f28, f29, hm5, hb5]
    refine OpsR.callV (V := fun v h' => Grows Nob h5 h') ?_ ?_
    · simp
      refine DoesV.func ?_
      simpa using mark_number gg5.ok n (.pointer (some ⟨h.next + 1 + 1, 0, none⟩)) (.pointer (some ⟨h2.next, 0, none⟩)) (.pointer (some ⟨h2.next + 1, 0, none⟩))
    intro v h6 g6
    have t6 := ((g3.trans g4).trans g5).trans g6
    have hv6 := t6.get gg2.ok hv2 (fun h => h)
    have hn6 := t6.get gg2.ok hn2 (fun h => h)
    simp [f5, f21, f22, w1, w1']
    rw [runs_loop]
    try unfold r_dead_needed_1
    simp [f5, f21, hv6]
    exact ⟨gg5.trans g6, s1, hn6⟩
end Go.Proofs.YtmdpidhnaddbcaaGreatDoor

/- Contracts: slices.DeleteFunc of instructions that nobody needs: all go. -/
namespace Go.Proofs.YtmdpidhnaddbcaaGreatDoor
open Go.AI

theorem read_repl1 {h : Heap} {b o s N d : Nat} {ro : Bool} {v : Value} (hb : h.tr.get b = some (.blk (repl [v] N) ro o s)) (hd : d < N) : readAt h b d 1 = some [v] := by
  have hl : (repl [v] N).length = N := length_repl1 _ _
  rw [readAt_eq hb (by omega)]
  have : ∀ (N d : Nat), d < N → ((repl [v] N).drop d).take 1 = [v] := by
    intro N
    induction N with
    | zero => intro d h; omega
    | succ N ih =>
      intro d h
      cases d with
      | zero => simp [repl]
      | succ d => simpa [repl] using ih d (by omega)
  rw [this N d hd]

theorem del_does {h : Heap} (ok : HOk h) {Wd Nd nd N d s1 s2 s3 o1 o2 o3 : Nat} {r1 r2 r3 : Bool} {x : Own} (hW : h.tr.get Wd = some (.blk [.int .i64 0] r1 o1 s1)) (hN : h.tr.get Nd = some (.blk [.slice (some ⟨nd, 0, none⟩) N N] r2 o2 s2)) (hn : h.tr.get nd = some (.blk (repl [.bool false] N) r3 o3 s3))
    (hd : x.dst = (d : Int)) (hdN : d < N) (hop : 2 ≤ x.op ∧ x.op ≤ 15) (h5 : x.op ≠ 5) (h6 : x.op ≠ 6) :
    Does FF n_dead_DoOf_2 [.agg ⟨encOwn.enc x⟩, .pointer (some ⟨Wd, 0, none⟩), .pointer (some ⟨Nd, 0, none⟩)] h (fun v h' => v = .bool true ∧ Grows Nob h h') := by
  have oW := ok.old hW
  refine Does.of c_dead_DoOf_2 ?_
  unfold b_dead_DoOf_2
  simp [hd, hW, oW]
  have g1 := grow_newBlk ok [.int .i64 x.op, .int .i64 d, .bool x.ar, .int .i64 x.an, .bool x.br, .int .i64 x.bn, .int .i64 0, .slice none 0 0] 0
  have hX := get_newBlk h [.int .i64 x.op, .int .i64 d, .bool x.ar, .int .i64 x.an, .bool x.br, .int .i64 x.bn, .int .i64 0, .slice none 0 0] 0
  generalize newBlk h [.int .i64 x.op, .int .i64 d, .bool x.ar, .int .i64 x.an, .bool x.br, .int .i64 x.bn, .int .i64 0, .slice none 0 0] 0 = h1 at *
  have hQ := quiet_does h1 g1.ok 0 x.op d x.an x.bn 0 x.ar x.br none 0 0 (by omega)
  rw [quiet_of hop h5 h6] at hQ
  refine OpsR.call (by simpa [insCells] using hQ) ?_
  rintro _ h2 ⟨rfl, g2⟩
  have hX2 := g2.get g1.ok hX (fun h => h)
  have hN2 := (g1.trans g2).get ok hN (fun h => h)
  have hn2 := (g1.trans g2).get ok hn (fun h => h)
  have hr := read_repl1 hn2 hdN
  simp [readAt_get hN2, readAt_get hX2, hdN, hr, -readAt_def]
  exact g1.trans g2

/-- what a closure of dead.DoOf stands on -/
structure DelOk (h : Heap) (Wd Nd nd N : Nat) : Prop where
  w : ∃ r o s, h.tr.get Wd = some (.blk [.int .i64 0] r o s)
  n : ∃ r o s, h.tr.get Nd = some (.blk [.slice (some ⟨nd, 0, none⟩) N N] r o s)
  f : ∃ r o s, h.tr.get nd = some (.blk (repl [.bool false] N) r o s)
theorem DelOk.grow {S : Nat → Prop} {h h' : Heap} {Wd Nd nd N : Nat} (k : DelOk h Wd Nd nd N) (ok : HOk h) (g : Grows S h h') (h1 : ¬ S Wd) (h2 : ¬ S Nd) (h3 : ¬ S nd) : DelOk h' Wd Nd nd N := by
  obtain ⟨⟨a, b, c, hw⟩, ⟨d, e, i, hn⟩, ⟨j, l, m, hf⟩⟩ := k
  exact ⟨⟨a, b, c, g.get ok hw h1⟩, ⟨d, e, i, g.get ok hn h2⟩, ⟨j, l, m, g.get ok hf h3⟩⟩

theorem del_call {h : Heap} (ok : HOk h) {Wd Nd nd N p j : Nat} {x : Own} (k : DelOk h Wd Nd nd N) (q : InOrd p j x) (hN : j + p < N) (hq : x.op ≠ 5 ∧ x.op ≠ 6) :
    DoesV FF (.func (.func n_dead_DoOf_2) #[] #[.pointer (some ⟨Wd, 0, none⟩), .pointer (some ⟨Nd, 0, none⟩)]) [.agg ⟨encOwn.enc x⟩] h (fun v h' => v = .bool true ∧ Grows Nob h h') := by
  obtain ⟨⟨a, b, c, hw⟩, ⟨d, e, i, hn⟩, ⟨j, l, m, hf⟩⟩ := k
  refine DoesV.func ?_
  have := del_does ok hw hn hf q.dst hN q.op hq.1 hq.2
  simpa using this

theorem delete_all {h : Heap} (ok : HOk h) {n0 Wd Nd nd N p : Nat} {L : SV} {xs : List Own} (hL : NewOf encOwn n0 h L xs) (k : DelOk h Wd Nd nd N) (q : ∀ j x, xs[j]? = some x → InOrd p j x) (hN : N = p + xs.length) (hNb : N < 100000) (hq : ∀ (j : Nat) x, xs[j]? = some x → x.op ≠ 5 ∧ x.op ≠ 6) :
    Does FF n_slices_DeleteFunc_api_Ins_api_Ins [L.v, .func (.func n_dead_DoOf_2) #[] #[.pointer (some ⟨Wd, 0, none⟩), .pointer (some ⟨Nd, 0, none⟩)]] h
      (fun v h' => Grows (fun x => L.a = some ⟨x, 0, none⟩ ∧ xs ≠ []) h h' ∧ ∃ w : SV, v = w.v ∧ w.l = 0) := by
  have w1 : IntKind.i64.wrap (0 + 1) = 1 := wrap_i64 _ (by omega) (by omega)
  have w1' : IntKind.i64.wrap 1 = 1 := wrap_i64 _ (by omega) (by omega)
  obtain ⟨hLl, hL2⟩ := id hL
  refine Does.of c_slices_DeleteFunc_api_Ins_api_Ins ?_
  unfold b_slices_DeleteFunc_api_Ins_api_Ins
  rcases hL2 with ⟨rfl, _⟩ | ⟨hne, d, s, hLa, hLd, hLb⟩
  · have hl0 : L.l = 0 := hLl
    simp [hl0]
    refine OpsR.call (V := fun v h' => v = .int .i64 (-1) ∧ h' = h) ?_ ?_
    · refine Does.of c_slices_IndexFunc_api_Ins_api_Ins ?_
      unfold b_slices_IndexFunc_api_Ins_api_Ins
      simp
      rw [runs_loop]
      unfold r_slices_IndexFunc_api_Ins_api_Ins_0
      simp
    · rintro _ h' ⟨rfl, e⟩
      rw [e]
      simp
      exact ⟨.refl ok, ⟨L.a, 0, L.c⟩, ⟨rfl, rfl, rfl⟩, rfl⟩
  · have hlen : 0 < xs.length := by cases xs with
      | nil => exact absurd rfl hne
      | cons => simp
    obtain ⟨x0, hx0⟩ : ∃ x0, xs[0]? = some x0 := ⟨_, List.getElem?_eq_getElem hlen⟩
    simp [hLl, hLa]
    refine OpsR.call (V := fun v h' => v = .int .i64 0 ∧ Grows Nob h h') ?_ ?_
    · refine Does.of c_slices_IndexFunc_api_Ins_api_Ins ?_
      unfold b_slices_IndexFunc_api_Ins_api_Ins
      simp
      rw [runs_loop]
      unfold r_slices_IndexFunc_api_Ins_api_Ins_0
      have hr : readAt h d 0 8 = some (encOwn.enc x0) := by
        obtain ⟨b', off, cap', hv', _, _, hrd⟩ := hL.sl.read hx0
        simp [hLa] at hv'
        have := hrd 0 8 (by simp)
        rw [← hv'.1.1, ← hv'.1.2] at this
        simpa using this
      simp [hlen, hr, -readAt_def]
      refine OpsR.callV (V := fun v h' => v = .bool true ∧ Grows Nob h h') ?_ ?_
      · simp
        simpa using del_call ok k (q 0 x0 hx0) (by omega) (hq 0 x0 hx0)
      · rintro _ h' ⟨rfl, g⟩
        simp
        exact g
    rintro _ h1 ⟨rfl, g1⟩
    simp [w1, w1']
    refine Runs.loop (fun m e h2 => ∃ j : Nat, m = xs.length - j ∧ 1 ≤ j ∧ j ≤ xs.length ∧ Env.get e 0 = .slice (some ⟨d, 0, none⟩) xs.length L.c ∧ Env.get e 1 = .func (.func n_dead_DoOf_2) #[] #[.pointer (some ⟨Wd, 0, none⟩), .pointer (some ⟨Nd, 0, none⟩)] ∧ Env.get e 5 = .int .i64 0 ∧ Env.get e 6 = .int .i64 j ∧ Grows Nob h h2) ?_ (n := xs.length - 1)
      ⟨1, rfl, by omega, by omega, by simp, by simp, by simp, by simp, g1⟩
    rintro m e h2 ⟨j, rfl, hj1, hj, f0, f1, f5, f6, g2⟩
    unfold r_slices_DeleteFunc_api_Ins_api_Ins_0
    by_cases hjl : j < xs.length
    · have hxj : xs[j]? = some xs[j] := List.getElem?_eq_getElem hjl
      have hr0 : readAt h2 d (j * 8) 8 = some (encOwn.enc xs[j]) := by
        obtain ⟨b', off, cap', hv', _, _, hrd⟩ := (hL.grow ok g2 (fun _ _ h => h)).sl.read hxj
        simp [hLa] at hv'
        have := hrd 0 8 (by simp)
        rw [← hv'.1.1, ← hv'.1.2] at this
        simpa using this
      obtain ⟨j', hj'⟩ : ∃ j', j' = j + 1 := ⟨_, rfl⟩
      have wj : IntKind.i64.wrap ((j : Int) + 1) = (j' : Int) := by rw [wrap_i64 _ (by omega) (by omega)]; omega
      simp [f0, f1, f5, f6, hjl, hr0, readAt_put_same, -readAt_def]
      refine OpsR.cut (fun h3 => Grows Nob h2 h3) ?_ ?_
      · exact (Grows.refl g2.ok).var _ _
      intro h3 g3
      have gg3 := g2.trans g3
      refine OpsR.callV (V := fun v h' => v = .bool true ∧ Grows Nob h3 h') ?_ ?_
      · simp [f1]
        simpa using del_call gg3.ok (k.grow ok gg3 (fun h => h) (fun h => h) (fun h => h)) (q j _ hxj) (by omega) (hq j _ hxj)
      rintro _ h4 ⟨rfl, g4⟩
      simp [f0, f1, f5, f6, wj]
      exact ⟨xs.length - j', by omega, j', rfl, by omega, by omega, rfl, gg3.trans g4⟩
    · have : j = xs.length := by omega
      subst this
      have hLb2 := g2.get ok hLb (fun h => h)
      have hrl : (repl [.int .i64 0, .int .i64 0, .bool false, .int .i64 0, .bool false, .int .i64 0, .int .i64 0, .slice none 0 0] xs.length).length = xs.length * 8 := by rw [length_repl']; rfl
      have hn0 : ¬ xs.length = 0 := by omega
      simp [f0, f1, f5, f6, hLb2, hrl, hn0]
      refine ⟨?_, ⟨some ⟨d, 0, none⟩, 0, L.c⟩, ⟨rfl, rfl, rfl⟩, rfl⟩
      exact (g2.nob).put ⟨_, hLb2⟩ (.inr ⟨rfl, hne⟩)

theorem delphi_nil {h : Heap} (f : Value) : Does FF n_slices_DeleteFunc_api_Phi_api_Phi [.slice none 0 0, f] h (fun v h' => v = .slice none 0 0 ∧ h' = h) := by
  refine Does.of c_slices_DeleteFunc_api_Phi_api_Phi ?_
  unfold b_slices_DeleteFunc_api_Phi_api_Phi
  simp
  refine OpsR.call (V := fun v h' => v = .int .i64 (-1) ∧ h' = h) ?_ ?_
  · refine Does.of c_slices_IndexFunc_api_Phi_api_Phi ?_
    unfold b_slices_IndexFunc_api_Phi_api_Phi
    simp
    rw [runs_loop]
    unfold r_slices_IndexFunc_api_Phi_api_Phi_0
    simp
  · rintro _ h' ⟨rfl, e⟩
    rw [e]
    simp
end Go.Proofs.YtmdpidhnaddbcaaGreatDoor
