/- Contracts: code.ahead and code.checker's body, of a function of one block that returns. -/
import Derived.Test.YtigniafapkbbbaaGreatDoorKA
namespace Go.Proofs.YtigniafapkbbbaaGreatDoor
open Go.AI

/-- An instruction of the law's own. -/
structure Own where
  op : Int
  dst : Int
  ar : Bool
  an : Int
  br : Bool
  bn : Int

def encOwn : Enc Own := ⟨fun x => insCells x.op x.dst x.ar x.an x.br x.bn 0 (.slice none 0 0), 8, fun _ => rfl, by decide, fun _ => rfl⟩
@[simp] theorem encOwn_sz : encOwn.sz = 8 := rfl
@[simp] theorem encOwn_enc (x : Own) : encOwn.enc x = [.int .i64 x.op, .int .i64 x.dst, .bool x.ar, .int .i64 x.an, .bool x.br, .int .i64 x.bn, .int .i64 0, .slice none 0 0] := rfl

/-- the cells of a block that returns -/
def blkCells (phis list : SV) (r : Bool) (n : Int) (to : SV) : List Value := [phis.v, list.v, .int .i64 1, .bool r, .int .i64 n, to.v]

/-- the one block of a function -/
def OneB (h : Heap) (blocks : SV) (phis list : SV) (r : Bool) (n : Int) (to : SV) : Prop := blocks.l = 1 ∧ ∃ b ro o s, blocks.a = some ⟨b, 0, none⟩ ∧ h.tr.get b = some (.blk (blkCells phis list r n to) ro o s)

theorem OneB.grow {h h' : Heap} {blocks phis list to : SV} {r : Bool} {n : Int} (w : OneB h blocks phis list r n to) (ok : HOk h) (g : Grows Nob h h') : OneB h' blocks phis list r n to := by
  obtain ⟨h1, b, ro, o, s, h2, h3⟩ := w
  exact ⟨h1, b, ro, o, s, h2, g.get ok h3 (fun h => h)⟩

theorem ahead_one {h : Heap} (ok : HOk h) {name : ByteArray} {params regs : Int} {blocks phis list to : SV} {r : Bool} {n : Int} (hB : OneB h blocks phis list r n to) (hto : to.l = 0) :
    Does FF n_code_ahead [.agg ⟨[.string name, .int .i64 params, .int .i64 regs, blocks.v]⟩] h (fun v h' => Grows Nob h h' ∧ ∃ b s, v = .slice (some ⟨b, 0, none⟩) 1 1 ∧ h.next ≤ b ∧ h'.tr.get b = some (.blk [.slice none 0 0] false 0 s)) := by
  obtain ⟨hl, b, ro, o, s, ha, hb⟩ := hB
  have hlt := ok.wf _ _ hb
  have hne : ¬ b = h.next := by omega
  have hne1 : ¬ b = h.next + 1 := by omega
  have hb' : h.tr.get b = some (.blk [.slice phis.a phis.l phis.c, .slice list.a list.l list.c, .int .i64 1, .bool r, .int .i64 n, .slice to.a 0 to.c] ro o s) := by rw [hb]; simp [blkCells, hto]
  have w1 : IntKind.i64.wrap (0 + 1) = 1 := wrap_i64 _ (by omega) (by omega)
  have w1' : IntKind.i64.wrap 1 = 1 := wrap_i64 _ (by omega) (by omega)
  refine Does.of c_code_ahead ?_
  unfold b_code_ahead
  simp [hl, ha, roomy, repl]
  rw [runs_loop]
  unfold r_code_ahead_1
  simp [hb', hne, hne1]
  rw [runs_loop]
  unfold r_code_ahead_0
  simp [w1, w1']
  rw [runs_loop]
  simp
  have g1 := (grow_newBlk ok [.string name, .int .i64 params, .int .i64 regs, .slice (some ⟨b, 0, none⟩) 1 blocks.c] 0).new [.slice none 0 0] 0
  refine Grows.put (g1.new _ _) ?_ ?_
  · exact ⟨0, by simp⟩
  · left; omega
end Go.Proofs.YtigniafapkbbbaaGreatDoor

/- Contract: code.checker's body, of a function of one block that returns, whose instructions are in order. -/
namespace Go.Proofs.YtigniafapkbbbaaGreatDoor
open Go.AI

/-- An instruction in order. -/
def InOrder (regs : Int) (x : Own) : Prop := opOk x.op x.br x.bn ∧ dstM regs x.dst = 0 ∧ valM regs x.ar x.an = 0 ∧ valM regs x.br x.bn = 0

theorem body_one {h : Heap} (ok : HOk h) (hw : Ways h) {gs fs blocks ah phis list to : SV} {name : ByteArray} {params regs : Int} (hr : 0 ≤ regs ∧ regs < 1000000) {r : Bool} {n : Int} {xs : List Own} (hB : OneB h blocks phis list r n to) (hto : to.l = 0) (hph : phis.l = 0)
    (hv : valM regs r n = 0) (hs : SliceOf encOwn h list.v xs) (hx : ∀ x ∈ xs, InOrder regs x) (hlen : xs.length < 1000000) :
    Does FF n_code_checker_body [.agg ⟨ckCells gs fs name params regs blocks ah⟩] h (fun v h' => v = .int .i64 0 ∧ Grows Nob h h') := by
  obtain ⟨hl, b, ro, o, s, ha, hb⟩ := id hB
  have hll : list.l = xs.length := by obtain ⟨a, cap, e, _⟩ := hs; simp at e; exact e.2.1
  have hlt := ok.wf _ _ hb
  have hne : ¬ b = h.next := by omega
  have w1 : IntKind.i64.wrap (0 + 1) = 1 := wrap_i64 _ (by omega) (by omega)
  have w1' : IntKind.i64.wrap 1 = 1 := wrap_i64 _ (by omega) (by omega)
  refine Does.of c_code_checker_body ?_
  unfold b_code_checker_body
  have g1 := grow_newBlk ok (ckCells gs fs name params regs blocks ah) 0
  have hC1 := get_newBlk h (ckCells gs fs name params regs blocks ah) 0
  have hb1 := g1.get ok hb (fun h => h)
  simp [ckCells, hl, ha]
  have e1 : newBlk h [.slice gs.a gs.l gs.c, .slice fs.a fs.l fs.c, .string name, .int .i64 params, .int .i64 regs, .slice (some ⟨b, 0, none⟩) 1 blocks.c, .slice ah.a ah.l ah.c] 0 = newBlk h (ckCells gs fs name params regs blocks ah) 0 := by simp [ckCells, hl, ha]
  rw [e1]
  generalize newBlk h (ckCells gs fs name params regs blocks ah) 0 = h1 at *
  rw [runs_loop]
  try unfold r_code_checker_body_3
  have hb1' : h1.tr.get b = some (.blk [.slice phis.a phis.l phis.c, .slice list.a list.l list.c, .int .i64 1, .bool r, .int .i64 n, .slice to.a to.l to.c] ro o s) := hb1
  have hC1' : h1.tr.get h.next = some (.blk [.slice gs.a gs.l gs.c, .slice fs.a fs.l fs.c, .string name, .int .i64 params, .int .i64 regs, .slice (some ⟨b, 0, none⟩) 1 blocks.c, .slice ah.a ah.l ah.c] false 0 0) := by rw [hC1]; simp [ckCells, hl, ha]
  have hnb : ¬ b = h1.next := by have := g1.ok.wf _ _ hb1; omega
  have hnC : ¬ h.next = h1.next := by have := g1.ok.wf _ _ hC1; omega
  simp [hb1', hC1', hnb, hnC]
  have g2 : Grows Nob h1 (put (newBlk h1 [.slice none 0 0, .slice none 0 0, .int .i64 0, .bool false, .int .i64 0, .slice none 0 0] 0) h1.next 0 [.slice none 0 0, .slice none 0 0, .int .i64 0, .bool false, .int .i64 0, .slice none 0 0]
      [.slice phis.a phis.l phis.c, .slice list.a list.l list.c, .int .i64 1, .bool r, .int .i64 n, .slice to.a to.l to.c] 0) := (grow_newBlk g1.ok _ _).put ⟨_, get_newBlk _ _ _⟩ (.inl (Nat.le_refl _))
  generalize put (newBlk h1 [.slice none 0 0, .slice none 0 0, .int .i64 0, .bool false, .int .i64 0, .slice none 0 0] 0) h1.next 0 [.slice none 0 0, .slice none 0 0, .int .i64 0, .bool false, .int .i64 0, .slice none 0 0]
      [.slice phis.a phis.l phis.c, .slice list.a list.l list.c, .int .i64 1, .bool r, .int .i64 n, .slice to.a to.l to.c] 0 = h2 at *
  have gg2 := g1.trans g2
  refine OpsR.call (by simpa [ckCells, hl, ha] using end_ret (gs := gs) (fs := fs) (name := name) (params := params) (blocks := blocks) (ah := ah) gg2.ok (hw.grow ok gg2) hr hv hto) ?_
  rintro _ h3 ⟨rfl, g3⟩
  have gg3 := gg2.trans g3
  have hC3 := (g2.trans g3).get g1.ok hC1' (fun h => h)
  have hB3 := hB.grow ok gg3
  simp [w1, w1']
  rw [runs_loop]
  try unfold r_code_checker_body_3
  simp [hC3]
  refine OpsR.call (by simpa [hl, ha] using ahead_one gg3.ok (name := name) (params := params) (regs := regs) hB3 hto) ?_
  rintro _ h4 ⟨g4, ab, rfl, hab, as4, hA4⟩
  have gg4 := gg3.trans g4
  have hC4 := g4.get gg3.ok hC3 (fun h => h)
  simp [hC4]
  have g5 : Grows Nob h (put h4 h.next 6 [.slice gs.a gs.l gs.c, .slice fs.a fs.l fs.c, .string name, .int .i64 params, .int .i64 regs, .slice (some ⟨b, 0, none⟩) 1 blocks.c, .slice ah.a ah.l ah.c] [.slice (some ⟨ab, 0, none⟩) 1 1] 0) := gg4.put ⟨_, hC4⟩ (.inl (Nat.le_refl _))
  have hC5 : (put h4 h.next 6 [.slice gs.a gs.l gs.c, .slice fs.a fs.l fs.c, .string name, .int .i64 params, .int .i64 regs, .slice (some ⟨b, 0, none⟩) 1 blocks.c, .slice ah.a ah.l ah.c] [.slice (some ⟨ab, 0, none⟩) 1 1] 0).tr.get h.next =
      some (.blk (ckCells gs fs name params regs ⟨some ⟨b, 0, none⟩, 1, blocks.c⟩ ⟨some ⟨ab, 0, none⟩, 1, 1⟩) false 0 h4.clock) := by simp [ckCells]
  generalize put h4 h.next 6 [.slice gs.a gs.l gs.c, .slice fs.a fs.l fs.c, .string name, .int .i64 params, .int .i64 regs, .slice (some ⟨b, 0, none⟩) 1 blocks.c, .slice ah.a ah.l ah.c] [.slice (some ⟨ab, 0, none⟩) 1 1] 0 = h5 at *
  have hb5 : h5.tr.get b = some (.blk [.slice phis.a 0 phis.c, .slice list.a xs.length list.c, .int .i64 1, .bool r, .int .i64 n, .slice to.a to.l to.c] ro o s) := by rw [g5.get ok hb (fun h => h)]; simp [blkCells, hph, hll]
  have hC5' : h5.tr.get h.next = some (.blk [.slice gs.a gs.l gs.c, .slice fs.a fs.l fs.c, .string name, .int .i64 params, .int .i64 regs, .slice (some ⟨b, 0, none⟩) 1 blocks.c, .slice (some ⟨ab, 0, none⟩) 1 1] false 0 h4.clock) := hC5
  have hn5 : ¬ b = h5.next := by have := g5.ok.wf _ _ hb5; omega
  have hnC5 : ¬ h.next = h5.next := by have := g5.ok.wf _ _ hC5; omega
  try simp [hC5', hl, ha]
  rw [runs_loop]
  try unfold r_code_checker_body_2
  simp [hb5, hn5]
  rw [runs_loop]
  try unfold r_code_checker_body_1
  simp
  have g6 : Grows Nob h5 (put (newBlk h5 [.slice none 0 0, .slice none 0 0, .int .i64 0, .bool false, .int .i64 0, .slice none 0 0] 0) h5.next 0 [.slice none 0 0, .slice none 0 0, .int .i64 0, .bool false, .int .i64 0, .slice none 0 0]
      [.slice phis.a 0 phis.c, .slice list.a xs.length list.c, .int .i64 1, .bool r, .int .i64 n, .slice to.a to.l to.c] 0) := (grow_newBlk g5.ok _ _).put ⟨_, get_newBlk _ _ _⟩ (.inl (Nat.le_refl _))
  have hC6 := g6.get g5.ok hC5 (fun h => h)
  generalize put (newBlk h5 [.slice none 0 0, .slice none 0 0, .int .i64 0, .bool false, .int .i64 0, .slice none 0 0] 0) h5.next 0 [.slice none 0 0, .slice none 0 0, .int .i64 0, .bool false, .int .i64 0, .slice none 0 0]
      [.slice phis.a 0 phis.c, .slice list.a xs.length list.c, .int .i64 1, .bool r, .int .i64 n, .slice to.a to.l to.c] 0 = h6 at *
  have gg6 := g5.trans g6
  have hs6 : SliceOf encOwn h6 (.slice list.a xs.length list.c) xs := by have := hs.nob ok gg6; rw [SV.v_def, hll] at this; exact this
  refine Runs.loop (fun m e h7 => ∃ j : Nat, m = xs.length - j ∧ j ≤ xs.length ∧ Env.get e 61 = .int .i64 (j : Nat) ∧ Env.get e 60 = .int .i64 xs.length ∧ Env.get e 59 = .slice list.a xs.length list.c ∧ Env.get e 1 = .pointer (some ⟨h.next, 0, none⟩) ∧ Env.get e 38 = .int .i64 0 ∧ Env.get e 37 = .int .i64 1 ∧ Grows Nob h6 h7) ?_ (n := xs.length)
    ⟨0, rfl, by omega, by simp, by simp, by simp, by simp, by simp, by simp, .refl gg6.ok⟩
  rintro m e h7 ⟨j, rfl, hj, f61, f60, f59, f1, f38, f37, g7⟩
  try unfold r_code_checker_body_0
  have hC7 := g7.get gg6.ok hC6 (fun h => h)
  by_cases hjl : j < xs.length
  · have hxj : xs[j]? = some xs[j] := List.getElem?_eq_getElem hjl
    obtain ⟨b', off, cap', hv', _, hblk, hrd⟩ := (hs6.nob gg6.ok g7).read hxj
    have hr0 := hrd 0 8 (by simp)
    simp only [encOwn_sz, Nat.add_zero] at hr0
    injection hv' with hv1 hv2 hv3
    obtain ⟨q1, q2, q3, q4⟩ := hx _ (List.getElem_mem hjl)
    have hwj := wrap_i64 (j + 1) (by omega) (by omega)
    have oC7 := g7.ok.old hC7
    obtain ⟨csb, rob, ob, sb, hbb⟩ := hblk
    have oB7 := g7.ok.old hbb
    simp [f61, f60, f59, f1, hjl, hv1, hr0, readAt_put, readAt_newBlk, readAt_put_same, readAt_newBlk_same, readAt_get hC7, oC7, oB7, ckCells, -readAt_def, -get_newBlk', get_newBlk_old]
    have g8 : Grows Nob h7 (put (newBlk h7 [.int .i64 0, .int .i64 0, .bool false, .int .i64 0, .bool false, .int .i64 0, .int .i64 0, .slice none 0 0] 0) h7.next 0 [.int .i64 0, .int .i64 0, .bool false, .int .i64 0, .bool false, .int .i64 0, .int .i64 0, .slice none 0 0]
        [.int .i64 xs[j].op, .int .i64 xs[j].dst, .bool xs[j].ar, .int .i64 xs[j].an, .bool xs[j].br, .int .i64 xs[j].bn, .int .i64 0, .slice none 0 0] 0) := (Grows.refl g7.ok).var _ _
    refine OpsR.call (by simpa [ckCells, insCells] using ins_good (gs := gs) (fs := fs) (name := name) (params := params) (regs := regs) (blocks := ⟨some ⟨b, 0, none⟩, 1, blocks.c⟩) (ah := ⟨some ⟨ab, 0, none⟩, 1, 1⟩) (args := ⟨none, 0, 0⟩) g8.ok hr q1 q2 q3 q4 rfl) ?_
    rintro _ h9 ⟨rfl, g9⟩
    simp [f61, f60, f59, f1, f38, f37, hwj]
    exact ⟨xs.length - (j + 1), by omega, j + 1, rfl, by omega, by simp, hv1, (g7.trans g8).trans g9⟩
  · have : j = xs.length := by omega
    subst this
    simp [f61, f60, f38, f37, w1, w1']
    rw [runs_loop]
    try unfold r_code_checker_body_2
    simp [f37]
    exact gg6.trans g7
end Go.Proofs.YtigniafapkbbbaaGreatDoor

/- Contracts: math/bits.Mul of one and a small number; slices.Repeat of one element. -/
namespace Go.Proofs.YtigniafapkbbbaaGreatDoor
open Go.AI

theorem wrap_u64 (n : Int) (h : 0 ≤ n) (h' : n < 18446744073709551616) : IntKind.u64.wrap n = n := by
  simp only [IntKind.wrap, IntKind.signed, IntKind.bits]
  simp
  omega

theorem mask32 (n : Nat) (h : n < 4294967296) : (BitVec.ofInt 64 (n : Int) &&& BitVec.ofInt 64 4294967295).toNat = n := by
  have e1 : (BitVec.ofInt 64 (n : Int)).toNat = n := by rw [BitVec.toNat_ofInt]; omega
  have e2 : (BitVec.ofInt 64 4294967295).toNat = 2 ^ 32 - 1 := by decide
  rw [BitVec.toNat_and, e1, e2, Nat.and_two_pow_sub_one_eq_mod]
  omega

theorem mul64_does (h : Heap) (n : Nat) (hn : n < 1000000) : Does FF n_math_bits_Mul64 [.int .u64 1, .int .u64 (n : Nat)] h (fun v h' => v = .tuple #[.int .u64 0, .int .u64 (n : Nat)] ∧ h' = h) := by
  refine Does.of c_math_bits_Mul64 ?_
  unfold b_math_bits_Mul64
  have w0 : IntKind.u64.wrap 0 = 0 := wrap_u64 _ (by omega) (by omega)
  have w1 : IntKind.u64.wrap 1 = 1 := wrap_u64 _ (by omega) (by omega)
  have wn : IntKind.u64.wrap (n : Int) = n := wrap_u64 _ (by omega) (by omega)
  have a1 : intBin .and .u64 1 4294967295 = some (.int .u64 1) := by
    have := mask32 1 (by omega)
    show some (Value.int .u64 (IntKind.u64.wrap ((BitVec.ofInt 64 ((1 : Nat) : Int) &&& BitVec.ofInt 64 4294967295).toNat : Int))) = _
    rw [this]; simp [w1]
  have a2 : intBin .and .u64 (n : Int) 4294967295 = some (.int .u64 n) := by
    have := mask32 n (by omega)
    show some (Value.int .u64 (IntKind.u64.wrap ((BitVec.ofInt 64 (n : Int) &&& BitVec.ofInt 64 4294967295).toNat : Int))) = _
    rw [this, wn]
  have a3 : intBin .and .u64 0 4294967295 = some (.int .u64 0) := by
    have := mask32 0 (by omega)
    show some (Value.int .u64 (IntKind.u64.wrap ((BitVec.ofInt 64 ((0 : Nat) : Int) &&& BitVec.ofInt 64 4294967295).toNat : Int))) = _
    rw [this]; simp [w0]
  have s0 : shiftBin .shr .u64 0 32 = some (.int .u64 0) := by rfl
  have s1 : shiftBin .shr .u64 1 32 = some (.int .u64 0) := by rfl
  have sn : shiftBin .shr .u64 (n : Int) 32 = some (.int .u64 0) := by
    have dn : (n : Int).fdiv (2 ^ 32) = 0 := by
      rw [Int.fdiv_eq_ediv_of_nonneg _ (by decide)]
      exact Int.ediv_eq_zero_of_lt (by omega) (by omega)
    show (if (32 : Int) < 0 then none else some (Value.int .u64 ((n : Int).fdiv (2 ^ (min (32 : Int).toNat 64))))) = _
    rw [if_neg (by decide), show min (32 : Int).toNat 64 = 32 by decide, dn]
  have p0 : intBin .mul .u64 0 (n : Int) = some (.int .u64 0) := by simp [w0]
  have p1 : intBin .mul .u64 1 (n : Int) = some (.int .u64 n) := by simp [wn]
  have p2 : intBin .mul .u64 1 0 = some (.int .u64 0) := by simp [w0]
  have p3 : intBin .mul .u64 0 0 = some (.int .u64 0) := by simp [w0]
  have q0 : intBin .add .u64 0 0 = some (.int .u64 0) := by simp [w0]
  simp [-intBin, a1, a2, a3, s0, s1, sn, p0, p1, p2, p3, q0]

theorem mul_does (h : Heap) (n : Nat) (hn : n < 1000000) : Does FF n_math_bits_Mul [.int .u64 1, .int .u64 (n : Nat)] h (fun v h' => v = .tuple #[.int .u64 0, .int .u64 (n : Nat)] ∧ h' = h) := by
  refine Does.of c_math_bits_Mul ?_
  unfold b_math_bits_Mul
  simp
  rw [runs_cond (t := false) rfl]
  simp
  refine OpsR.call (V := fun v h' => v = .tuple #[.int .u64 0, .int .u64 (n : Nat)] ∧ h' = h) (by simpa using mul64_does h n hn) ?_
  rintro _ h' ⟨rfl, rfl⟩
  simp

theorem take_replicate_flat {α : Type} (E : Enc α) (x : α) (n k : Nat) (hk : k ≤ n) : (E.flat (List.replicate n x)).take (k * E.sz) = E.flat (List.replicate k x) := by
  rw [E.take_flat, List.take_replicate, Nat.min_eq_left hk]

theorem repl_eq {α : Type} (E : Enc α) {z : List Value} (z0 : α) (hz : z = E.enc z0) (n : Nat) : repl z n = E.flat (List.replicate n z0) := by
  induction n with
  | zero => rfl
  | succ n ih => rw [repl, ih, hz, List.replicate_succ, E.flat_cons]

/-- what has been filled -/
def filled {α : Type} (x z : α) (k n : Nat) : List α := List.replicate k x ++ List.replicate (n - k) z

theorem fill_step {α : Type} (E : Enc α) (x z : α) {k m n : Nat} (hk : k + m ≤ n) : splice (E.flat (filled x z k n)) (k * E.sz) (E.flat (List.replicate m x)) = E.flat (filled x z (k + m) n) := by
  have h1 : (E.flat (filled x z k n)).take (k * E.sz) = E.flat (List.replicate k x) := by
    rw [E.take_flat]; congr 1; simp [filled]
  have h2 : (E.flat (filled x z k n)).drop (k * E.sz + m * E.sz) = E.flat (List.replicate (n - (k + m)) z) := by
    rw [← Nat.add_mul, E.drop_flat]; congr 1; simp [filled, List.drop_append]
    omega
  unfold splice
  rw [E.length_flat, List.length_replicate, h1, h2, ← E.flat_append, ← E.flat_append, List.replicate_append_replicate]
  rfl

/-- the code of slices.Repeat -/
def repRound (o : Nat) : ACode := (.seq (.seq (.ops [⟨(some 34), none, (.mv (.tmp 8))⟩, ⟨(some 35), none, (.mv (.tmp 7))⟩, ⟨(some 36), none, (.blen (.tmp 35))⟩, ⟨(some 37), none, (.bin .lss [] (.tmp 34) (.tmp 36))⟩]) (.cond (.tmp 37) .skip (.exit 0))) (.block 1 (.draw [(⟨(some 38), none, (.mv (.tmp 8))⟩, []), (⟨(some 39), none, (.mv (.tmp 7))⟩, []), (⟨(some 40), none, (.mv (.tmp 8))⟩, []), (⟨(some 41), none, (.slice o (.tmp 39) (some (.tmp 40)) none none)⟩, []), (⟨(some 42), none, (.mv (.tmp 7))⟩, []), (⟨(some 43), none, (.mv (.tmp 8))⟩, []), (⟨(some 44), none, (.slice o (.tmp 42) none (some (.tmp 43)) none)⟩, []), (⟨(some 45), none, (.copy o (.tmp 41) (.tmp 44))⟩, []), (⟨(some 46), none, (.bin .add [] (.tmp 38) (.tmp 45))⟩, []), (⟨(some 8), none, (.mv (.tmp 46))⟩, [])])))
def repBody (z : List Value) (o bytes : Nat) : ACode := (.seq (.ops [⟨(some 4), none, (.mv (.const (.slice none 0 0)))⟩]) (.seq (.seq (.ops [⟨(some 9), none, (.mv (.tmp 1))⟩, ⟨(some 10), none, (.bin .lss [] (.tmp 9) (.const (.int .i64 0)))⟩]) (.cond (.tmp 10) (.ops [⟨(some 11), none, .bad⟩, ⟨none, none, .bad⟩]) .skip)) (.seq (.ops [⟨(some 13), none, (.mv (.tmp 0))⟩, ⟨(some 14), none, (.blen (.tmp 13))⟩, ⟨(some 15), none, (.conv .u64 (.tmp 14))⟩, ⟨(some 16), none, (.mv (.tmp 1))⟩, ⟨(some 17), none, (.conv .u64 (.tmp 16))⟩, ⟨(some 18), none, (.call (.func n_math_bits_Mul) [(.tmp 15), (.tmp 17)])⟩, ⟨(some 12), none, (.mv (.tmp 18))⟩, ⟨(some 19), none, (.ext 0 (.tmp 12))⟩, ⟨(some 20), none, (.ext 1 (.tmp 12))⟩, ⟨(some 5), none, (.mv (.tmp 19))⟩, ⟨(some 6), none, (.mv (.tmp 20))⟩]) (.seq (.seq (.ops [⟨(some 21), none, (.mv (.tmp 5))⟩, ⟨(some 22), none, (.bin .gtr [] (.tmp 21) (.const (.int .u64 0)))⟩, ⟨(some 23), none, (.mv (.tmp 22))⟩, ⟨(some 24), (some (23, false)), (.mv (.tmp 6))⟩, ⟨(some 25), (some (23, false)), (.bin .gtr [] (.tmp 24) (.const (.int .u64 9223372036854775807)))⟩, ⟨(some 26), none, (.pick (.tmp 23) (.const (.bool true)) (.tmp 25))⟩]) (.cond (.tmp 26) (.ops [⟨(some 27), none, .bad⟩, ⟨none, none, .bad⟩]) .skip)) (.seq (.ops [⟨(some 28), none, (.mv (.tmp 6))⟩, ⟨(some 29), none, (.conv .i64 (.tmp 28))⟩, ⟨(some 30), none, (.mkslice z bytes (.tmp 29) (.tmp 29))⟩, ⟨(some 7), none, (.mv (.tmp 30))⟩]) (.seq (.ops [⟨(some 31), none, (.mv (.tmp 7))⟩, ⟨(some 32), none, (.mv (.tmp 0))⟩, ⟨(some 33), none, (.copy o (.tmp 31) (.tmp 32))⟩, ⟨(some 8), none, (.mv (.tmp 33))⟩]) (.seq (.block 0 (.loop (repRound o))) (.seq (.ops [⟨(some 47), none, (.mv (.tmp 7))⟩, ⟨(some 4), none, (.mv (.tmp 47))⟩]) .ret))))))))

theorem repeat_does {α : Type} (E : Enc α) {f bytes : Nat} {z : List Value} (hf : FF f = some ⟨[.tmp 4], repBody z E.sz bytes, .no⟩) (hby : bytes ≤ 1000) (z0 x : α) (hz : z = E.enc z0) {h : Heap} (ok : HOk h) (n : Nat) (hn : 0 < n ∧ n < 1000000) {b off c : Nat} (hs : SliceOf E h (.slice (some ⟨b, off, none⟩) 1 c) [x]) :
    Does FF f [.slice (some ⟨b, off, none⟩) 1 c, .int .i64 n] h (fun v h' => Grows Nob h h' ∧ ∃ d s, v = .slice (some ⟨d, 0, none⟩) n n ∧ h.next ≤ d ∧ h'.tr.get d = some (.blk (E.flat (List.replicate n x)) false 0 s)) := by
  have hzl : z.length = E.sz := by rw [hz, E.len]
  have hp := E.pos
  have w1 : IntKind.u64.wrap 1 = 1 := wrap_u64 _ (by omega) (by omega)
  have wn : IntKind.u64.wrap (n : Int) = n := wrap_u64 _ (by omega) (by omega)
  have wn' : IntKind.i64.wrap (n : Int) = n := wrap_i64 _ (by omega) (by omega)
  have n0 : ¬ (n : Int) < 0 := by omega
  have n1 : ¬ (9223372036854775807 : Int) < n := by omega
  have r1 : roomy n = true := by simp [roomy]; omega
  have r2 : roomy (n * bytes) = true := by
    have : n * bytes ≤ 1000000 * 1000 := Nat.mul_le_mul (by omega) hby
    simp [roomy]; omega
  obtain ⟨b', off', c', e', hl', ⟨_, _, _, _, hbb⟩, hrd⟩ := hs.read (i := 0) (x := x) rfl
  injection e' with e1 e2 e3
  cases e1
  have hr0 := hrd 0 E.sz (by omega)
  simp only [Nat.zero_mul, Nat.add_zero, List.drop_zero] at hr0
  have hr1 : readAt h b off E.sz = some (E.enc x) := by rw [hr0, List.take_of_length_le (by rw [E.len]; exact Nat.le_refl _)]
  have oB := ok.old hbb
  have m1 : Nat.min 1 n = 1 := by show min 1 n = 1; omega
  have m2 : E.sz ≤ n * E.sz := Nat.le_mul_of_pos_left _ hn.1
  refine Does.of hf ?_
  unfold repBody
  simp [n0, w1, wn]
  refine OpsR.call (V := fun v h' => v = .tuple #[.int .u64 0, .int .u64 (n : Nat)] ∧ h' = h) (by simpa using mul_does h n hn.2) ?_
  rintro _ h' ⟨rfl, e⟩
  subst e
  simp [n1, wn', r1, r2, hzl, hp, m1, readAt_newBlk, oB, hr1, E.len, repl_eq E z0 hz, m2, -readAt_def]
  have g0 : Grows Nob h' (put (newBlk h' (E.flat (List.replicate n z0)) 0) h'.next 0 (E.flat (List.replicate n z0)) (E.enc x) 0) := (Grows.refl ok).var _ _
  have hd0 : (put (newBlk h' (E.flat (List.replicate n z0)) 0) h'.next 0 (E.flat (List.replicate n z0)) (E.enc x) 0).tr.get h'.next = some (.blk (E.flat (filled x z0 1 n)) false 0 h'.clock) := by
    rw [get_put_same, clock_newBlk]
    have := fill_step E x z0 (k := 0) (m := 1) (n := n) (by omega)
    simp only [filled, List.replicate_zero, List.nil_append, Nat.sub_zero, Nat.zero_mul, Nat.zero_add, List.replicate_one, E.flat_cons, E.flat_nil, List.append_nil] at this ⊢
    rw [this]
  refine Runs.cut (fun h1 => Grows Nob h' h1 ∧ ∃ s, h1.tr.get h'.next = some (.blk (E.flat (filled x z0 1 n)) false 0 s)) ⟨g0, _, hd0⟩ ?_
  rintro h1 ⟨g1, s1, hd1⟩
  refine Runs.loop (fun m e h2 => ∃ k : Nat, m = n - k ∧ 1 ≤ k ∧ k ≤ n ∧ Env.get e 7 = .slice (some ⟨h'.next, 0, none⟩) n n ∧ Env.get e 8 = .int .i64 k ∧ Grows Nob h' h2 ∧ ∃ s, h2.tr.get h'.next = some (.blk (E.flat (filled x z0 k n)) false 0 s)) ?_ (n := n - 1)
    ⟨1, rfl, Nat.le_refl _, hn.1, by simp, by simp, g1, s1, hd1⟩
  rintro m e h2 ⟨k, rfl, hk1, hkn, f7, f8, g2, s2, hd2⟩
  unfold repRound
  by_cases hlt : k < n
  · have q1 : Nat.min k (n - k) = min k (n - k) := rfl
    obtain ⟨j, hj⟩ : ∃ j, j = min k (n - k) := ⟨_, rfl⟩
    rw [← hj] at q1
    have q2 : ¬ j = 0 := by omega
    have q3 : k ≤ n := by omega
    have hrd2 : readAt h2 h'.next 0 (j * E.sz) = some (E.flat (List.replicate j x)) := by
      have hjn : j * E.sz ≤ (filled x z0 k n).length * E.sz := Nat.mul_le_mul_right _ (by simp [filled]; omega)
      rw [readAt_eq hd2 (by simpa using hjn), List.drop_zero, E.take_flat]
      congr 2
      rw [filled, List.take_append_of_le_length (by simp; omega), List.take_replicate, Nat.min_eq_left (by omega)]
    have hlen : k * E.sz + j * E.sz ≤ (filled x z0 k n).length * E.sz := by
      rw [← Nat.add_mul]
      exact Nat.mul_le_mul_right _ (by simp [filled]; omega)
    obtain ⟨k', hk'⟩ : ∃ k', k' = k + j := ⟨_, rfl⟩
    have wk : IntKind.i64.wrap ((k : Int) + (j : Int)) = (k' : Int) := by rw [wrap_i64 _ (by omega) (by omega)]; omega
    have hq : (k : Int) < (n : Int) := by omega
    simp [f7, f8, hlt, hq, q1, q2, q3, hd2, readAt_tick, hrd2, hlen, wk, -readAt_def]
    refine ⟨n - k', by omega, k', rfl, by omega, by omega, by simp, ?_, ?_⟩
    · exact Grows.put g2.tick ⟨_, hd2⟩ (.inl (Nat.le_refl _))
    · rw [hk', ← fill_step E x z0 (by omega)]
  · have : k = n := by omega
    subst this
    simp [f7, f8]
    refine ⟨g2, s2, ?_⟩
    rw [hd2]
    simp [filled]

theorem repeat_int {h : Heap} (ok : HOk h) (enc : Int → Value) : True := trivial
end Go.Proofs.YtigniafapkbbbaaGreatDoor

/- Contracts: graph's Post, OrderOf, Ahead of a function of one block that returns. -/
namespace Go.Proofs.YtigniafapkbbbaaGreatDoor
open Go.AI

theorem backward_does (h : Heap) (to : SV) : Does FF n_slices_Backward_int_int [to.v] h (fun v h' => v = .func (.func n_slices_Backward_int_int_1) #[] #[.pointer (some ⟨h.next, 0, none⟩)] ∧ h' = newBlk h [to.v] 0) := by
  refine Does.of c_slices_Backward_int_int ?_
  unfold b_slices_Backward_int_int
  simp

theorem backward_nil (h : Heap) {b s : Nat} {ro : Bool} {o : Nat} {a : Option Addr} {c : Nat} (y : Value) (hb : h.tr.get b = some (.blk [.slice a 0 c] ro o s)) :
    Does FF n_slices_Backward_int_int_1 [y, .pointer (some ⟨b, 0, none⟩)] h (fun v h' => h' = h) := by
  have w : IntKind.i64.wrap (0 - 1) = -1 := wrap_i64 _ (by omega) (by omega)
  have w' : IntKind.i64.wrap (-1) = -1 := wrap_i64 _ (by omega) (by omega)
  refine Does.of c_slices_Backward_int_int_1 ?_
  unfold b_slices_Backward_int_int_1
  simp [hb, w, w']
  rw [runs_loop]
  unfold r_slices_Backward_int_int_1_0
  simp

theorem post1_does {h : Heap} (ok : HOk h) {S sb Fb Lf : Nat} {vp : Value} {name : ByteArray} {params regs : Int} {blocks phis list to : SV} {r : Bool} {n : Int} {s1 s2 s3 s4 : Nat} (hB : OneB h blocks phis list r n to) (hto : to.l = 0)
    (hS : h.tr.get S = some (.blk [.slice (some ⟨sb, 0, none⟩) 1 1] false 0 s1)) (hsb : h.tr.get sb = some (.blk [.bool false] false 0 s2)) (hF : h.tr.get Fb = some (.blk [.string name, .int .i64 params, .int .i64 regs, blocks.v] false 0 s3))
    (hL : h.tr.get Lf = some (.blk [.slice none 0 0] false 0 s4)) (n1 : sb ≠ S) (n2 : sb ≠ Fb) (n3 : sb ≠ Lf) (n4 : Lf ≠ S) (n5 : Lf ≠ Fb) (n6 : ∀ b, blocks.a = some b → b.block ≠ sb ∧ b.block ≠ Lf) :
    Does FF n_graph_Post_1 [.int .i64 0, .pointer (some ⟨S, 0, none⟩), .pointer (some ⟨Fb, 0, none⟩), vp, .pointer (some ⟨Lf, 0, none⟩)] h (fun v h' => Grows (fun x => x = sb ∨ x = Lf) h h' ∧ ∃ d s, h.next ≤ d ∧
      h'.tr.get Lf = some (.blk [.slice (some ⟨d, 0, none⟩) 1 1] false 0 s) ∧ ∃ s', h'.tr.get d = some (.blk [.int .i64 0] false 1 s')) := by
  obtain ⟨hl, b, ro, o, s, ha, hb⟩ := id hB
  have n6 := n6 _ ha
  obtain ⟨n7, n8⟩ := n6
  simp only at n7 n8
  have hb' : h.tr.get b = some (.blk [.slice phis.a phis.l phis.c, .slice list.a list.l list.c, .int .i64 1, .bool r, .int .i64 n, .slice to.a 0 to.c] ro o s) := by rw [hb]; simp [blkCells, hto]
  refine Does.of c_graph_Post_1 ?_
  unfold b_graph_Post_1
  simp [hS, hsb, hF, hl, ha, n1, n2, n3, n4, n5, n7, hb', Ne.symm n2, Ne.symm n1, Ne.symm n3]
  refine OpsR.call (V := fun v h' => v = .func (.func n_slices_Backward_int_int_1) #[] #[.pointer (some ⟨h.next, 0, none⟩)] ∧ h' = newBlk (put h sb 0 [.bool false] [.bool true] 0) [.slice to.a 0 to.c] 0) (by simpa [hto] using backward_does (put h sb 0 [.bool false] [.bool true] 0) to) ?_
  rintro _ h1 ⟨rfl, e1⟩
  have g1 : Grows (fun x => x = sb ∨ x = Lf) h h1 := by rw [e1]; exact (Grows.put (.refl ok) ⟨_, hsb⟩ (.inr (.inl rfl))).new _ _
  have hn1 : h1.tr.get h.next = some (.blk [.slice to.a 0 to.c] false 0 0) := by rw [e1]; exact get_newBlk _ _ _
  have oL := ok.old hL
  have hL1 : h1.tr.get Lf = some (.blk [.slice none 0 0] false 0 s4) := by rw [e1]; simp [hL, oL, Ne.symm n3]
  have hnx : h1.next = h.next + 1 := by rw [e1]; rfl
  clear e1
  simp
  have ob := g1.ok.old hn1
  refine Runs.rng (g := n_slices_Backward_int_int_1) (first := #[]) (caps := #[.pointer (some ⟨h.next, 0, none⟩)]) (by simp) ?_
  refine Does.mono (backward_nil (b := h.next) (s := 0) (ro := false) (o := 0) (a := to.a) (c := to.c) _ _ (by rw [get_new_ne _ ob]; exact hn1)) ?_
  rintro _ h2 rfl
  refine RngEnd.ready (by simp only [Heap.new, Tr.get_set, if_true]; rfl) ?_
  refine Eq.mp (by rw [out_normal]; rfl) (?_ : Runs FF _ _ _ _)
  refine Runs.cut (fun h3 => Grows (fun x => x = sb ∨ x = Lf) h h3 ∧ h3.tr.get Lf = some (.blk [.slice none 0 0] false 0 s4)) ⟨g1.trans (grow_rng g1.ok _ (by intro _ _ _ _ e; cases e)).nob, by rw [(grow_rng g1.ok _ (by intro _ _ _ _ e; cases e)).got (g1.old oL)]; exact hL1⟩ ?_
  rintro h3 ⟨g3, hL3⟩
  have oL3 := g3.ok.old hL3
  simp [hL3, oL3, appendF, news, appendV, roomy, get_newBlk_old]
  refine ⟨?_, ?_⟩
  · exact Grows.put ((g3.new _ _).new _ _) ⟨s4, by simp [get_newBlk_old, oL3, hL3]⟩ (.inr (.inr rfl))
  · have := g3.next
    have hl := oL3.lt
    refine ⟨h3.next + 1, by omega, rfl, 0, ?_⟩
    rw [if_neg (by omega), if_pos rfl]

/-- the cells of a function -/
def fnCells (name : ByteArray) (params regs : Int) (blocks : SV) : List Value := [.string name, .int .i64 params, .int .i64 regs, blocks.v]

theorem post_does {h : Heap} (ok : HOk h) {name : ByteArray} {params regs : Int} {blocks phis list to : SV} {r : Bool} {n : Int} (hB : OneB h blocks phis list r n to) (hto : to.l = 0) :
    Does FF n_graph_Post [.agg ⟨fnCells name params regs blocks⟩] h (fun v h' => Grows Nob h h' ∧ ∃ d, v = .slice (some ⟨d, 0, none⟩) 1 1 ∧ h.next ≤ d ∧ ∃ s, h'.tr.get d = some (.blk [.int .i64 0] false 1 s)) := by
  obtain ⟨hl, b, ro, o, s, ha, hb⟩ := id hB
  refine Does.of c_graph_Post ?_
  unfold b_graph_Post
  have oB := ok.old hb
  simp [fnCells, hl, ha, roomy, repl]
  refine OpsR.cut (fun h1 => Grows Nob h h1 ∧ h1.tr.get h.next = some (.blk [.string name, .int .i64 params, .int .i64 regs, .slice (some ⟨b, 0, none⟩) 1 blocks.c] false 0 0) ∧ h1.tr.get (h.next + 1) = some (.blk [.slice none 0 0] false 0 0) ∧
      (∃ s, h1.tr.get (h.next + 1 + 1) = some (.blk [.bool false] false 0 s)) ∧ (∃ s, h1.tr.get (h.next + 1 + 1 + 1) = some (.blk [.slice (some ⟨h.next + 1 + 1, 0, none⟩) 1 1] false 0 s))) ?_ ?_
  · exact ⟨(((((Grows.refl ok).new _ _).new _ _).new _ _).var _ _).var _ _, by simp [Nat.add_assoc], by simp [Nat.add_assoc], ⟨0, by simp [Nat.add_assoc]⟩, ⟨h.clock, by simp [Nat.add_assoc]⟩⟩
  · rintro h1 ⟨g1, hF, hL, ⟨s1, hs⟩, ⟨s2, hS⟩⟩
    refine OpsR.callV (V := fun v h' => Grows (fun x => x = h.next + 1 + 1 ∨ x = h.next + 1) h1 h' ∧ ∃ d s, h1.next ≤ d ∧
      h'.tr.get (h.next + 1) = some (.blk [.slice (some ⟨d, 0, none⟩) 1 1] false 0 s) ∧ ∃ s', h'.tr.get d = some (.blk [.int .i64 0] false 1 s')) ?_ ?_
    · simp
      refine DoesV.func ?_
      have := post1_does g1.ok (vp := .pointer (some ⟨h.next + 1 + 1 + 1 + 1, 0, none⟩)) (hB.grow ok g1) hto hS hs (blocks := blocks) (name := name) (params := params) (regs := regs) (Fb := h.next) (Lf := h.next + 1) (s3 := 0) (by rw [hF]; simp [hl, ha]) hL (by omega) (by omega) (by omega) (by omega) (by omega) (by
        intro x hx
        rw [ha] at hx; cases hx
        have := oB.lt
        exact ⟨by show b ≠ _; omega, by show b ≠ _; omega⟩)
      simpa using this
    · rintro v h2 ⟨g2, d, s3, hd, hL2, s4, hd2⟩
      simp [hL2]
      refine ⟨?_, ?_, s4, hd2⟩
      · refine (g1.trans' g2 (fun _ _ h => h) ?_)
        rintro x hx (rfl | rfl) <;> omega
      · have := g1.next; omega

theorem order_does {h : Heap} (ok : HOk h) {name : ByteArray} {params regs : Int} {blocks phis list to : SV} {r : Bool} {n : Int} (hB : OneB h blocks phis list r n to) (hto : to.l = 0) :
    Does FF n_graph_OrderOf [.agg ⟨fnCells name params regs blocks⟩] h (fun v h' => Grows Nob h h' ∧ ∃ d, v = .slice (some ⟨d, 0, none⟩) 1 1 ∧ h.next ≤ d ∧ ∃ s, h'.tr.get d = some (.blk [.int .i64 0] false 1 s)) := by
  have w0 : IntKind.i64.wrap (1 - 1) = 0 := wrap_i64 _ (by omega) (by omega)
  have w0' : IntKind.i64.wrap 0 = 0 := wrap_i64 _ (by omega) (by omega)
  refine Does.of c_graph_OrderOf ?_
  unfold b_graph_OrderOf
  simp [fnCells]
  have g0 := grow_newBlk ok (fnCells name params regs blocks) 0
  refine OpsR.call (by simpa [fnCells] using post_does g0.ok (name := name) (params := params) (regs := regs) (hB.grow ok g0) hto) ?_
  rintro _ h1 ⟨g1, d, rfl, hd, s, hd1⟩
  simp
  refine OpsR.call (V := fun v h' => h' = h1) ?_ ?_
  · refine Does.of c_slices_Reverse_int_int ?_
    unfold b_slices_Reverse_int_int
    simp [w0, w0']
    rw [runs_loop]
    unfold r_slices_Reverse_int_int_0
    simp
  · rintro _ h2 rfl
    simp
    exact ⟨g0.trans g1, Nat.le_trans g0.next hd, s, hd1⟩

theorem gahead_one {h : Heap} (ok : HOk h) {name : ByteArray} {params regs : Int} {blocks phis list to : SV} {r : Bool} {n : Int} (hB : OneB h blocks phis list r n to) (hto : to.l = 0) :
    Does FF n_graph_Ahead [.agg ⟨fnCells name params regs blocks⟩] h (fun v h' => Grows Nob h h' ∧ ∃ b s, v = .slice (some ⟨b, 0, none⟩) 1 1 ∧ h.next ≤ b ∧ h'.tr.get b = some (.blk [.slice none 0 0] false 0 s)) := by
  obtain ⟨hl, b, ro, o, s, ha, hb⟩ := hB
  have hlt := ok.wf _ _ hb
  have hne : ¬ b = h.next := by omega
  have hne1 : ¬ b = h.next + 1 := by omega
  have hb' : h.tr.get b = some (.blk [.slice phis.a phis.l phis.c, .slice list.a list.l list.c, .int .i64 1, .bool r, .int .i64 n, .slice to.a 0 to.c] ro o s) := by rw [hb]; simp [blkCells, hto]
  have w1 : IntKind.i64.wrap (0 + 1) = 1 := wrap_i64 _ (by omega) (by omega)
  have w1' : IntKind.i64.wrap 1 = 1 := wrap_i64 _ (by omega) (by omega)
  refine Does.of c_graph_Ahead ?_
  unfold b_graph_Ahead
  simp [fnCells, hl, ha, roomy, repl]
  rw [runs_loop]
  unfold r_graph_Ahead_1
  simp [hb', hne, hne1]
  rw [runs_loop]
  unfold r_graph_Ahead_0
  simp [w1, w1']
  rw [runs_loop]
  simp
  have g1 := (grow_newBlk ok [.string name, .int .i64 params, .int .i64 regs, .slice (some ⟨b, 0, none⟩) 1 blocks.c] 0).new [.slice none 0 0] 0
  refine Grows.put (g1.new _ _) ?_ ?_
  · exact ⟨0, by simp⟩
  · left; omega
end Go.Proofs.YtigniafapkbbbaaGreatDoor
