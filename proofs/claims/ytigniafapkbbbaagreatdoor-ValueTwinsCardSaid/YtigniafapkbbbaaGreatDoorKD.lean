/- Contract: ssa.checker's writes, of a function of one block. -/
import Derived.Test.YtigniafapkbbbaaGreatDoorKC
namespace Go.Proofs.YtigniafapkbbbaaGreatDoor
open Go.AI

/-- by whom the registers are written, when the first d of them are: p parameters, then the instructions in their order -/
def wsD (p N d : Nat) : List (Int × Int) := (List.range N).map fun i => if i < d then (0, if i < p then -1 else (i : Int) - p) else (-1, -1)
@[simp] theorem length_wsD (p N d : Nat) : (wsD p N d).length = N := by simp [wsD]
theorem get_wsD {p N d i : Nat} (h : i < N) : (wsD p N d)[i]? = some (if i < d then (0, if i < p then -1 else (i : Int) - p) else (-1, -1)) := by simp [wsD, h]
theorem wsD_zero (p N : Nat) : wsD p N 0 = List.replicate N (-1, -1) := by
  simp [wsD, List.map_const']
theorem set_wsD {p N d : Nat} (h : d < N) : (wsD p N d).set d (0, if d < p then -1 else (d : Int) - p) = wsD p N (d + 1) := by
  apply List.ext_getElem?
  intro i
  by_cases hi : i < N
  · rw [get_wsD hi, List.getElem?_set]
    by_cases e : d = i
    · subst e; simp [h]
    · rw [if_neg e, get_wsD hi]
      by_cases h1 : i < d
      · simp [h1, show i < d + 1 by omega]
      · simp [h1, show ¬ i < d + 1 by omega]
  · rw [List.getElem?_eq_none (by simp; omega), List.getElem?_eq_none (by simp; omega)]

/-- An instruction of straight code: its place tells its register. -/
structure InOrd (p j : Nat) (x : Own) : Prop where
  op : opOk x.op x.br x.bn
  dst : x.dst = ((j + p : Nat) : Int)
  a : x.ar = true → ∃ k : Nat, x.an = k ∧ k < j + p
  b : x.br = true → ∃ k : Nat, x.bn = k ∧ k < j + p

theorem writes_one {h : Heap} (ok : HOk h) {C W : Nat} {name : ByteArray} {p N : Nat} {regs : Int} {blocks up phis list to : SV} {wc s1 s2 o1 : Nat} {ro1 : Bool} {r : Bool} {n : Int} {xs : List Own} (hB : OneB h blocks phis list r n to) (hph : phis.l = 0)
    (hs : SliceOf encOwn h list.v xs) (hx : ∀ j x, xs[j]? = some x → InOrd p j x) (hlen : N < 1000000) (hNp : p + xs.length ≤ N)
    (hC : h.tr.get C = some (.blk (scCells name p regs blocks up ⟨some ⟨W, 0, none⟩, N, wc⟩) ro1 o1 s1)) (hW : h.tr.get W = some (.blk (encW.flat (wsD p N 0)) false 0 s2))
    (n1 : C ≠ W) (n2 : xs ≠ [] → ∀ b, BlkOf list.v b → b ≠ W) (n3 : ∀ b, BlkOf blocks.v b → b ≠ W) :
    Does FF n_ssa_checker_writes [.pointer (some ⟨C, 0, none⟩)] h (fun v h' => v = .bool true ∧ Grows (· = W) h h' ∧ ∃ s, h'.tr.get W = some (.blk (encW.flat (wsD p N (p + xs.length))) false 0 s)) := by
  obtain ⟨hl, b, ro, o, s, ha, hb⟩ := id hB
  have hll : list.l = xs.length := by obtain ⟨a, cap, e, _⟩ := hs; simp at e; exact e.2.1
  have nb : b ≠ W := n3 b ⟨0, blocks.l, blocks.c, by simp [ha]⟩
  have w1 : IntKind.i64.wrap (0 + 1) = 1 := wrap_i64 _ (by omega) (by omega)
  have w1' : IntKind.i64.wrap 1 = 1 := wrap_i64 _ (by omega) (by omega)
  have hC' : h.tr.get C = some (.blk [.string name, .int .i64 p, .int .i64 regs, .slice (some ⟨b, 0, none⟩) 1 blocks.c, .slice up.a up.l up.c, .slice (some ⟨W, 0, none⟩) N wc] ro1 o1 s1) := by rw [hC]; simp [scCells, hl, ha]
  have hb' : h.tr.get b = some (.blk [.slice phis.a 0 phis.c, .slice list.a xs.length list.c, .int .i64 1, .bool r, .int .i64 n, .slice to.a to.l to.c] ro o s) := by rw [hb]; simp [blkCells, hph, hll]
  refine Does.of c_ssa_checker_writes ?_
  unfold b_ssa_checker_writes
  simp [hC']
  refine Runs.loop (fun m e h1 => ∃ i : Nat, m = p - i ∧ i ≤ p ∧ Env.get e 0 = .pointer (some ⟨C, 0, none⟩) ∧ Env.get e 3 = .bool true ∧ Env.get e 15 = .int .i64 p ∧ Env.get e 16 = .int .i64 i ∧ Grows (· = W) h h1 ∧
    ∃ s, h1.tr.get W = some (.blk (encW.flat (wsD p N i)) false 0 s)) ?_ (n := p) ⟨0, rfl, by omega, by simp, by simp, by simp, by simp, .refl ok, s2, hW⟩
  rintro m e h1 ⟨i, rfl, hi, f0, f3, f15, f16, g1, s3, hW1⟩
  have hC1 := g1.get ok hC n1
  have hb1 := g1.get ok hb' nb
  unfold r_ssa_checker_writes_3
  by_cases hip : i < p
  · obtain ⟨i', hi'⟩ : ∃ i', i' = i + 1 := ⟨_, rfl⟩
    have wi : IntKind.i64.wrap ((i : Int) + 1) = (i' : Int) := by rw [wrap_i64 _ (by omega) (by omega)]; omega
    simp [f0, f3, f15, f16, hip]
    have hget := get_wsD (p := p) (d := i) (show i < N by omega)
    rw [if_neg (by omega)] at hget
    refine OpsR.call (by simpa using write_does g1.ok (ws := wsD p N i) (by simpa using hC1) hW1 (at_ := -1) hget) ?_
    rintro _ h2 ⟨rfl, g2, s4, hW2⟩
    have hset := set_wsD (p := p) (show i < N by omega)
    rw [if_pos hip] at hset
    rw [hset, ← hi'] at hW2
    simp [f0, f3, f15, f16, wi]
    exact ⟨p - i', by omega, i', rfl, by omega, rfl, g1.trans g2, s4, hW2⟩
  · have : i = p := by omega
    subst this
    simp [f0, f3, f15, f16, (g1.get ok hC' n1)]
    rw [runs_loop]
    unfold r_ssa_checker_writes_2
    have oW1 := g1.ok.old hW1
    have ob1 := g1.ok.old hb1
    simp [hb1, ob1]
    rw [runs_loop]
    unfold r_ssa_checker_writes_1
    simp
    refine Runs.cut (fun h2 => Grows Nob h1 h2) ((Grows.refl g1.ok).var _ _) ?_
    intro h2 g2
    have gg2 := g1.trans (g2.nob (S := (· = W)))
    have hW2 := g2.get g1.ok hW1 (fun h => h)
    refine Runs.loop (fun m e h3 => ∃ j : Nat, m = xs.length - j ∧ j ≤ xs.length ∧ Env.get e 0 = .pointer (some ⟨C, 0, none⟩) ∧ Env.get e 3 = .bool true ∧ Env.get e 5 = .int .i64 0 ∧ Env.get e 54 = .slice list.a xs.length list.c ∧ Env.get e 55 = .int .i64 xs.length ∧ Env.get e 56 = .int .i64 j ∧ Env.get e 31 = .int .i64 1 ∧ Env.get e 32 = .int .i64 0 ∧
      Grows (· = W) h h3 ∧ ∃ s, h3.tr.get W = some (.blk (encW.flat (wsD i N (i + j))) false 0 s)) ?_ (n := xs.length) ⟨0, rfl, by omega, by simp [f0], by simp [f3], by simp, by simp, by simp, by simp, by simp, by simp, gg2, s3, hW2⟩
    rintro m e h3 ⟨j, rfl, hj, f0, f3, f5, f54, f55, f56, f31, f32, g3, s5, hW3⟩
    unfold r_ssa_checker_writes_0
    by_cases hjl : j < xs.length
    · have hxj : xs[j]? = some xs[j] := List.getElem?_eq_getElem hjl
      have hs3 : SliceOf encOwn h3 (.slice list.a xs.length list.c) xs := by have := hs.grow ok g3 (n2 (by rintro rfl; simp at hjl)); rw [SV.v_def, hll] at this; exact this
      obtain ⟨b', off, cap', hv', _, ⟨csb, rob, obb, sbb, hbb⟩, hrd⟩ := hs3.read hxj
      injection hv' with hv1 hv2 hv3
      have hr0 := hrd 0 8 (by simp)
      simp only [encOwn_sz, Nat.add_zero] at hr0
      have ob3 := g3.ok.old hbb
      have q := hx j _ hxj
      obtain ⟨d, hd⟩ : ∃ d, d = i + j := ⟨_, rfl⟩
      have hdst : xs[j].dst = (d : Int) := by rw [q.dst, hd, Nat.add_comm]
      have hneg : ¬ (d : Int) < 0 := by omega
      obtain ⟨j', hj'⟩ : ∃ j', j' = j + 1 := ⟨_, rfl⟩
      have wj : IntKind.i64.wrap ((j : Int) + 1) = (j' : Int) := by rw [wrap_i64 _ (by omega) (by omega)]; omega
      have g4 : Grows Nob h3 (put (newBlk h3 [.int .i64 0, .int .i64 0, .bool false, .int .i64 0, .bool false, .int .i64 0, .int .i64 0, .slice none 0 0] 0) h3.next 0 [.int .i64 0, .int .i64 0, .bool false, .int .i64 0, .bool false, .int .i64 0, .int .i64 0, .slice none 0 0]
          [.int .i64 xs[j].op, .int .i64 d, .bool xs[j].ar, .int .i64 xs[j].an, .bool xs[j].br, .int .i64 xs[j].bn, .int .i64 0, .slice none 0 0] 0) := (Grows.refl g3.ok).var _ _
      have hget := get_wsD (p := i) (d := i + j) (show i + j < N by omega)
      rw [if_neg (by omega), ← hd] at hget
      have hC4 := (g3.trans (g4.nob (S := (· = W)))).get ok hC n1
      have hW4 := g4.get g3.ok hW3 (fun h => h)
      rw [← hd] at hW4
      simp [f0, f3, f5, f54, f55, f56, hjl, hv1, hr0, hdst, hneg, readAt_put_same, -readAt_def]
      refine OpsR.call (by simpa using write_does g4.ok (ws := wsD i N d) (by simpa using hC4) hW4 (at_ := j) hget) ?_
      rintro _ h5 ⟨rfl, g5, s6, hW5⟩
      have hset := set_wsD (p := i) (N := N) (d := d) (by omega)
      rw [if_neg (by omega), show ((d : Int) - (i : Int)) = (j : Int) by omega] at hset
      rw [hset] at hW5
      simp [f0, f3, f5, f54, f55, f56, f31, f32, wj]
      refine ⟨xs.length - j', by omega, j', rfl, by omega, hv1, rfl, (g3.trans (g4.nob)).trans g5, s6, ?_⟩
      rw [hW5, hd, hj', Nat.add_assoc]
    · have : j = xs.length := by omega
      subst this
      simp [f0, f3, f5, f54, f55, f56, f31, f32, w1, w1']
      rw [runs_loop]
      try unfold r_ssa_checker_writes_2
      simp [f31, f3]
      exact ⟨g3, s5, hW3⟩
end Go.Proofs.YtigniafapkbbbaaGreatDoor

/- Contract: ssa.checker's uses, of a function of one block. -/
namespace Go.Proofs.YtigniafapkbbbaaGreatDoor
open Go.AI

theorem known_ok {p m j N : Nat} (hN : p + m ≤ N) (hj : j ≤ m) {k : Nat} (hk : k < j + p) : ∃ a : Int, (wsD p N (p + m))[k]? = some (0, a) ∧ a < j := by
  rw [get_wsD (by omega), if_pos (by omega)]
  refine ⟨_, rfl, ?_⟩
  split <;> omega

theorem vals_does (h : Heap) (cs : List Value) (hcs : cs.length = 8) (hp : cs.all plain = true) : Does FF n_core_Vals [.agg ⟨cs⟩] h (fun v h' => v = .func (.func n_core_Vals_1) #[] #[.pointer (some ⟨h.next, 0, none⟩)] ∧ h' = newBlk h cs 0) := by
  refine Does.of c_core_Vals ?_
  unfold b_core_Vals
  simp [hp]

def asgU : ACode := .ops [⟨(some 13), none, (.alloc [(.bool false), (.int .i64 0)])⟩, ⟨none, none, (.store 2 (.tmp 13) (.tmp 79))⟩]
def bodyU : ACode := (.block 9 (.seq (.ops [⟨(some 80), none, (.load none (.tmp 1))⟩, ⟨(some 81), none, (.load (some 2) (.tmp 13))⟩, ⟨(some 82), none, (.load none (.tmp 4))⟩, ⟨(some 83), none, (.load none (.tmp 11))⟩, ⟨(some 84), none, (.call (.func n_ssa_checker_known) [(.tmp 80), (.tmp 81), (.tmp 82), (.tmp 83)])⟩, ⟨(some 85), none, (.un .not (.tmp 84))⟩]) (.cond (.tmp 85) (.seq (.ops [⟨none, none, (.store 1 (.tmp 2) (.const (.bool false)))⟩]) .ret) .skip)))

theorem use_step {hA : Heap} {e : Env} {C W P I4 J11 : Nat} {name : ByteArray} {params regs : Int} {blocks up : SV} {wc s1 s2 s3 s4 s5 o1 o2 : Nat} {ro1 ro2 : Bool} {ws : List (Int × Int)} {j : Nat} (okA : HOk hA) (hC : hA.tr.get C = some (.blk (scCells name params regs blocks up ⟨some ⟨W, 0, none⟩, ws.length, wc⟩) ro1 o1 s1))
    (hW : hA.tr.get W = some (.blk (encW.flat ws) ro2 o2 s2)) (hP : hA.tr.get P = some (.blk [.pointer (some ⟨C, 0, none⟩)] false 0 s3)) (hI : hA.tr.get I4 = some (.blk [.int .i64 0] false 0 s4)) (hJ : hA.tr.get J11 = some (.blk [.int .i64 j] false 0 s5))
    (f1 : Env.get e 1 = .pointer (some ⟨P, 0, none⟩)) (f4 : Env.get e 4 = .pointer (some ⟨I4, 0, none⟩)) (f11 : Env.get e 11 = .pointer (some ⟨J11, 0, none⟩)) {r : Bool} {n : Int} (hk : r = true → ∃ (k : Nat) (a : Int), n = k ∧ ws[k]? = some (0, a) ∧ a < j)
    {h1 : Heap} (ok1 : HOk h1) (g1 : Grows Nob hA h1) (hlx : hA.next < h1.next) : Runs FF asgU (Tr.set e 79 (.agg ⟨[.bool r, .int .i64 n]⟩)) h1 (fun x e2 h2 => x = .normal ∧ Grows Nob h1 h2 ∧ ∀ h3, Grows (· = hA.next) h2 h3 → Runs FF bodyU e2 h3 (fun x _ h4 => x = .normal ∧ Grows Nob h3 h4)) := by
  unfold asgU
  simp
  have gv : Grows Nob h1 (put (newBlk h1 [.bool false, .int .i64 0] 0) h1.next 0 [.bool false, .int .i64 0] [.bool r, .int .i64 n] 0) := (Grows.refl ok1).var _ _
  have hV : (put (newBlk h1 [.bool false, .int .i64 0] 0) h1.next 0 [.bool false, .int .i64 0] [.bool r, .int .i64 n] 0).tr.get h1.next = some (.blk [.bool r, .int .i64 n] false 0 h1.clock) := by simp
  generalize put (newBlk h1 [.bool false, .int .i64 0] 0) h1.next 0 [.bool false, .int .i64 0] [.bool r, .int .i64 n] 0 = h2 at *
  refine ⟨gv, fun h3 g3 => ?_⟩
  have t2 := g1.trans gv
  have tr : ∀ {b : Nat} {ob : AObj}, hA.tr.get b = some ob → h3.tr.get b = some ob := by
    intro b ob hb
    have hlt := okA.wf _ _ hb
    exact g3.get gv.ok (t2.get okA hb (fun h => h)) (by omega)
  have hC3 := tr hC
  have hW3 := tr hW
  have hP3 := tr hP
  have hI3 := tr hI
  have hJ3 := tr hJ
  have hV3 := g3.get gv.ok hV (by omega)
  unfold bodyU
  simp [f1, f4, f11, hP3, hI3, hJ3, hV3]
  refine OpsR.call (by simpa using known_does g3.ok hC3 hW3 hk) ?_
  rintro _ h4 ⟨rfl, g4⟩
  simp
  exact g4
theorem uses_one {h : Heap} (ok : HOk h) {C W : Nat} {name : ByteArray} {p N : Nat} {regs : Int} {blocks up phis list to : SV} {wc s1 s2 o1 o2 : Nat} {ro1 ro2 : Bool} {r : Bool} {n : Int} {xs : List Own} (hB : OneB h blocks phis list r n to) (hph : phis.l = 0) (hto : to.l = 0)
    (hs : SliceOf encOwn h list.v xs) (hx : ∀ j x, xs[j]? = some x → InOrd p j x) (hlen : N < 1000000) (hNp : p + xs.length ≤ N) (hon : r = true → ∃ k : Nat, n = k ∧ k < xs.length + p)
    (hC : h.tr.get C = some (.blk (scCells name p regs blocks up ⟨some ⟨W, 0, none⟩, N, wc⟩) ro1 o1 s1)) (hW : h.tr.get W = some (.blk (encW.flat (wsD p N (p + xs.length))) ro2 o2 s2)) :
    Does FF n_ssa_checker_uses [.pointer (some ⟨C, 0, none⟩)] h (fun v h' => v = .bool true ∧ Grows Nob h h') := by
  obtain ⟨hl, b, ro, o, s, ha, hb⟩ := id hB
  have hll : list.l = xs.length := by obtain ⟨a, cap, e, _⟩ := hs; simp at e; exact e.2.1
  have w1 : IntKind.i64.wrap (0 + 1) = 1 := wrap_i64 _ (by omega) (by omega)
  have w1' : IntKind.i64.wrap 1 = 1 := wrap_i64 _ (by omega) (by omega)
  have hC' : h.tr.get C = some (.blk [.string name, .int .i64 p, .int .i64 regs, .slice (some ⟨b, 0, none⟩) 1 blocks.c, .slice up.a up.l up.c, .slice (some ⟨W, 0, none⟩) N wc] ro1 o1 s1) := by rw [hC]; simp [scCells, hl, ha]
  have hb' : h.tr.get b = some (.blk [.slice phis.a 0 phis.c, .slice list.a xs.length list.c, .int .i64 1, .bool r, .int .i64 n, .slice to.a to.l to.c] ro o s) := by rw [hb]; simp [blkCells, hph, hll]
  have hCw : h.tr.get C = some (.blk (scCells name p regs blocks up ⟨some ⟨W, 0, none⟩, (wsD p N (p + xs.length)).length, wc⟩) ro1 o1 s1) := by rw [length_wsD]; exact hC
  have oC := ok.old hC
  refine Does.of c_ssa_checker_uses ?_
  unfold b_ssa_checker_uses
  simp [hC', oC]
  refine OpsR.cut (fun h1 => Grows Nob h h1 ∧ h1.tr.get h.next = some (.blk [.pointer (some ⟨C, 0, none⟩)] false 0 0) ∧ h1.tr.get (h.next + 1) = some (.blk [.bool false] false 0 0)) ⟨((Grows.refl ok).new _ _).new _ _, by simp, by simp⟩ ?_
  rintro h1 ⟨g1, hP1, hR1⟩
  refine OpsR.call (by simpa [fnCells, hl, ha] using gahead_one g1.ok (name := name) (params := p) (regs := regs) (hB.grow ok g1) hto) ?_
  rintro _ h2 ⟨g2, ah, rfl, hah, s3, hA2⟩
  have gg2 := g1.trans g2
  have hP2 := g2.get g1.ok hP1 (fun h => h)
  have hR2 := g2.get g1.ok hR1 (fun h => h)
  have hC2 := gg2.get ok hC' (fun h => h)
  have hb2 := gg2.get ok hb' (fun h => h)
  have ob2 := gg2.ok.old hb2
  simp [hP2, hC2]
  rw [runs_loop]
  unfold r_ssa_checker_uses_3
  simp [hb2, ob2]
  refine Runs.cut (fun h3 => Grows Nob h2 h3 ∧ (∃ s, h3.tr.get h2.next = some (.blk [.int .i64 0] false 0 s)) ∧ ∃ s, h3.tr.get (h2.next + 1) = some (.blk [.slice phis.a 0 phis.c, .slice list.a xs.length list.c, .int .i64 1, .bool r, .int .i64 n, .slice to.a to.l to.c] false 0 s)) ?_ ?_
  · refine ⟨?_, ⟨h2.clock, by simp⟩, ⟨h2.clock + 1, by simp⟩⟩
    repeat (first | exact .refl gg2.ok | apply Grows.new | refine Grows.put ?_ (by simp) (by simp))
  rintro h3 ⟨g3, ⟨s4, hI3⟩, s5, hb3⟩
  have gg3 := gg2.trans g3
  have hP3 := g3.get gg2.ok hP2 (fun h => h)
  have hR3 := g3.get gg2.ok hR2 (fun h => h)
  rw [runs_loop]
  unfold r_ssa_checker_uses_2
  simp [hb3]
  refine Runs.loop (fun m e h4 => ∃ j : Nat, m = xs.length - j ∧ j ≤ xs.length ∧ Env.get e 1 = .pointer (some ⟨h.next, 0, none⟩) ∧ Env.get e 2 = .pointer (some ⟨h.next + 1, 0, none⟩) ∧ Env.get e 4 = .pointer (some ⟨h2.next, 0, none⟩) ∧ Env.get e 5 = .pointer (some ⟨h2.next + 1, 0, none⟩) ∧
      Env.get e 70 = .slice list.a xs.length list.c ∧ Env.get e 71 = .int .i64 xs.length ∧ Env.get e 72 = .int .i64 j ∧ Env.get e 24 = .int .i64 1 ∧ Env.get e 25 = .int .i64 0 ∧ Grows Nob h3 h4) ?_ (n := xs.length) ⟨0, rfl, by omega, by simp, by simp, by simp, by simp, by simp, by simp, by simp, by simp, by simp, .refl gg3.ok⟩
  rintro m e h4 ⟨j, rfl, hj, f1, f2, f4, f5, f70, f71, f72, f24, f25, g4⟩
  have gg4 := gg3.trans g4
  unfold r_ssa_checker_uses_0
  by_cases hjl : j < xs.length
  · have hxj : xs[j]? = some xs[j] := List.getElem?_eq_getElem hjl
    have hs4 : SliceOf encOwn h4 (.slice list.a xs.length list.c) xs := by have := hs.nob ok gg4; rw [SV.v_def, hll] at this; exact this
    obtain ⟨b', off, cap', hv', _, ⟨csb, rob, obb, sbb, hbb⟩, hrd⟩ := hs4.read hxj
    injection hv' with hv1 hv2 hv3
    have hr0 := hrd 0 8 (by simp)
    simp only [encOwn_sz, Nat.add_zero] at hr0
    have ob4 := gg4.ok.old hbb
    have q := hx j _ hxj
    obtain ⟨j', hj'⟩ : ∃ j', j' = j + 1 := ⟨_, rfl⟩
    have wj : IntKind.i64.wrap ((j : Int) + 1) = (j' : Int) := by rw [wrap_i64 _ (by omega) (by omega)]; omega
    simp [f1, f2, f4, f5, f70, f71, f72, hjl, hv1, hr0, readAt_put, readAt_newBlk, readAt_put_same, -readAt_def, ob4]
    refine OpsR.cut (fun h5 => Grows Nob h4 h5 ∧ (∃ s, h5.tr.get h4.next = some (.blk [.int .i64 j] false 0 s))) ⟨?_, ⟨h4.clock, by simp⟩⟩ ?_
    · repeat (first | exact .refl gg4.ok | apply Grows.new | refine Grows.put ?_ (by simp) (by simp))
    rintro h5 ⟨g5, s6, hJ5⟩
    have gg5 := gg4.trans g5
    refine OpsR.call (by simpa [insCells] using vals_does h5 (insCells xs[j].op xs[j].dst xs[j].ar xs[j].an xs[j].br xs[j].bn 0 (.slice none 0 0)) rfl rfl) ?_
    rintro _ h6 ⟨rfl, e6⟩
    have g6 : Grows Nob h5 h6 := by rw [e6]; exact grow_newBlk gg5.ok _ _
    have hX6 : h6.tr.get h5.next = some (.blk (insCells xs[j].op xs[j].dst xs[j].ar xs[j].an xs[j].br xs[j].bn 0 (SV.v ⟨none, 0, 0⟩)) false 0 0) := by rw [e6]; exact get_newBlk _ _ _
    clear e6
    have gg6 := gg5.trans g6
    have hJ6 := g6.get gg5.ok hJ5 (fun h => h)
    have hP6 := ((g4.trans g5).trans g6).get gg3.ok hP3 (fun h => h)
    have hI6 := ((g4.trans g5).trans g6).get gg3.ok hI3 (fun h => h)
    have hC6 := gg6.get ok hCw (fun h => h)
    have hW6 := gg6.get ok hW (fun h => h)
    have hstep : ∀ (rr : Bool) (nn : Int), (rr = true → ∃ k : Nat, nn = k ∧ k < j + p) → ∀ h7, HOk h7 → Grows Nob h6 h7 → h6.next < h7.next → Runs FF asgU (Tr.set (Tr.set (Tr.set (Tr.set (Tr.set (Tr.set (Tr.set (Tr.set (Tr.set e 73 (.bool true)) 74 (.int .i64 j)) 75 (.pointer (some ⟨b', off + j * 8, none⟩))) 76 (.agg ⟨insCells xs[j].op xs[j].dst xs[j].ar xs[j].an xs[j].br xs[j].bn 0 (.slice none 0 0)⟩)) 11 (.pointer (some ⟨h4.next, 0, none⟩))) 12 (.pointer (some ⟨h4.next + 1, 0, none⟩))) 77 (.agg ⟨insCells xs[j].op xs[j].dst xs[j].ar xs[j].an xs[j].br xs[j].bn 0 (.slice none 0 0)⟩)) 78 (.func (.func n_core_Vals_1) #[] #[.pointer (some ⟨h5.next, 0, none⟩)])) 79 (.agg ⟨[.bool rr, .int .i64 nn]⟩)) h7
        (fun x e2 h2 => x = .normal ∧ Grows Nob h7 h2 ∧ ∀ h3, Grows (· = h6.next) h2 h3 → Runs FF bodyU e2 h3 (fun x _ h4 => x = .normal ∧ Grows Nob h3 h4)) := by
      intro rr nn hk h7 ok7 g7 lt7
      refine use_step gg6.ok hC6 hW6 hP6 hI6 hJ6 (by simp [f1]) (by simp [f4]) (by simp) (fun hr => ?_) ok7 g7 lt7
      obtain ⟨k, rfl, hk'⟩ := hk hr
      obtain ⟨a, h1, h2⟩ := known_ok hNp hj hk'
      exact ⟨k, a, rfl, h1, h2⟩
    simp
    rcases q.op with hop | ⟨hop, _, _⟩
    · refine rng_vals (op := xs[j].op) (dst := xs[j].dst) (ar := xs[j].ar) (an := xs[j].an) (br := xs[j].br) (bn := xs[j].bn) (fn := 0) (args := ⟨none, 0, 0⟩) gg6.ok (fun _ => True) (fun _ _ => True) (fun _ => True) Nob (by simp) hX6 hop rfl (fun _ h => h.elim) trivial (fun _ _ _ _ _ => trivial) (fun _ _ _ _ _ _ _ => trivial) (fun _ _ _ _ _ => trivial) ?_ ?_ ?_
      · intro h7 ok7 g7 lt7 _
        refine (hstep _ _ q.a h7 ok7 g7 lt7).mono ?_
        rintro x e2 h8 ⟨hx8, g8, H⟩
        exact ⟨hx8, g8, fun h9 g9 => (H h9 g9).mono fun x e3 h10 hh => ⟨hh.1, hh.2, trivial⟩⟩
      · intro B h7 ok7 _ lt7 g7 _
        refine (hstep _ _ q.b h7 ok7 g7 (by omega)).mono ?_
        rintro x e2 h8 ⟨hx8, g8, H⟩
        exact ⟨hx8, g8, fun h9 g9 => (H h9 g9).mono fun x e3 h10 hh => ⟨hh.1, hh.2.nob, trivial⟩⟩
      · intro h7 g7 _
        simp [f1, f2, f4, f5, f70, f71, f72, f24, f25, wj, hv1]
        exact ⟨xs.length - j', by omega, j', rfl, by omega, rfl, ((g4.trans g5).trans g6).trans g7⟩
    · refine rng_one (op := xs[j].op) (dst := xs[j].dst) (ar := xs[j].ar) (an := xs[j].an) (br := xs[j].br) (bn := xs[j].bn) (fn := 0) (args := ⟨none, 0, 0⟩) gg6.ok (fun _ => True) (fun _ => True) Nob (by simp) hX6 hop rfl (fun _ h => h.elim) trivial (fun _ _ _ _ _ => trivial) (fun _ _ _ _ _ => trivial) ?_ ?_
      · intro h7 ok7 g7 lt7 _
        refine (hstep _ _ q.a h7 ok7 g7 lt7).mono ?_
        rintro x e2 h8 ⟨hx8, g8, H⟩
        exact ⟨hx8, g8, fun h9 g9 => (H h9 g9).mono fun x e3 h10 hh => ⟨hh.1, hh.2, trivial⟩⟩
      · intro h7 g7 _
        simp [f1, f2, f4, f5, f70, f71, f72, f24, f25, wj, hv1]
        exact ⟨xs.length - j', by omega, j', rfl, by omega, rfl, ((g4.trans g5).trans g6).trans g7⟩
  · have : j = xs.length := by omega
    subst this
    have hP4 := g4.get gg3.ok hP3 (fun h => h)
    have hI4 := g4.get gg3.ok hI3 (fun h => h)
    have hb4 := g4.get gg3.ok hb3 (fun h => h)
    have hR4 := g4.get gg3.ok hR3 (fun h => h)
    simp [f1, f2, f4, f5, f70, f71, f72, f24, f25, hP4, hI4, hb4]
    refine OpsR.call (by simpa using known_does gg4.ok (gg4.get ok hCw (fun h => h)) (gg4.get ok hW (fun h => h)) (r := r) (n := n) (at_ := xs.length) (by
        intro hr
        obtain ⟨k, rfl, hk⟩ := hon hr
        obtain ⟨a, h1, h2⟩ := known_ok hNp (Nat.le_refl _) hk
        exact ⟨k, a, rfl, h1, h2⟩)) ?_
    rintro _ h5 ⟨rfl, g5⟩
    have hR5 := g5.get gg4.ok hR4 (fun h => h)
    simp [f1, f2, f24, f25, w1, w1']
    rw [runs_loop]
    try unfold r_ssa_checker_uses_3
    simp [f2, f24, hR5]
    exact (gg4.trans g5).put ⟨_, hR5⟩ (.inl (by omega))
end Go.Proofs.YtigniafapkbbbaaGreatDoor
