/- Contract: ssa.CheckOf of a function of one block that is in order. -/
import Derived.Test.YtigniafapkbbbaaGreatDoorKD
import Derived.KernelRfl
namespace Go.Proofs.YtigniafapkbbbaaGreatDoor
open Go.AI

theorem mul0_does (h : Heap) : Does FF n_math_bits_Mul [.int .u64 1, .int .u64 0] h (fun v h' => v = .tuple #[.int .u64 0, .int .u64 0] ∧ h' = h) := by
  simpa using mul_does h 0 (by omega)

theorem repeat_zero {α : Type} (E : Enc α) {f bytes : Nat} {z : List Value} (hf : FF f = some ⟨[.tmp 4], repBody z E.sz bytes, .no⟩) (hz : z.length = E.sz) {h : Heap} (ok : HOk h) {b off c : Nat} :
    Does FF f [.slice (some ⟨b, off, none⟩) 1 c, .int .i64 0] h (fun v h' => Grows Nob h h' ∧ ∃ d s, v = .slice (some ⟨d, 0, none⟩) 0 0 ∧ h.next ≤ d ∧ h'.tr.get d = some (.blk [] false 0 s)) := by
  have hp := E.pos
  have w1 : IntKind.u64.wrap 1 = 1 := wrap_u64 _ (by omega) (by omega)
  have w0 : IntKind.u64.wrap 0 = 0 := wrap_u64 _ (by omega) (by omega)
  have w0' : IntKind.i64.wrap 0 = 0 := wrap_i64 _ (by omega) (by omega)
  have m1 : Nat.min 1 0 = 0 := rfl
  refine Does.of hf ?_
  unfold repBody
  simp [w1, w0]
  refine OpsR.call (V := fun v h' => v = .tuple #[.int .u64 0, .int .u64 0] ∧ h' = h) (by simpa using mul0_does h) ?_
  rintro _ h' ⟨rfl, e⟩
  subst e
  simp [w0', roomy, hz, hp, repl, m1]
  rw [runs_loop]
  unfold repRound
  simp
  exact grow_newBlk ok _ _

theorem repeat_w {h : Heap} (ok : HOk h) (n : Nat) (hn : n < 1000000) {b o s c : Nat} {rb : Bool} {x : Int × Int} (hb : h.tr.get b = some (.blk [.int .i64 x.1, .int .i64 x.2] rb o s)) :
    Does FF n_slices_Repeat_ssa_written_ssa_written [.slice (some ⟨b, 0, none⟩) 1 c, .int .i64 n] h (fun v h' => Grows Nob h h' ∧ ∃ d s, v = .slice (some ⟨d, 0, none⟩) n n ∧ h.next ≤ d ∧ h'.tr.get d = some (.blk (encW.flat (List.replicate n x)) false 0 s)) := by
  cases n with
  | zero => exact repeat_zero encW (z := [.int .i64 0, .int .i64 0]) (bytes := 16) c_slices_Repeat_ssa_written_ssa_written rfl ok
  | succ n => exact repeat_written ok (n + 1) ⟨by omega, hn⟩ (ro := 0) hb

theorem repeat_i {h : Heap} (ok : HOk h) (n : Nat) (hn : n < 1000000) {b o s c : Nat} {rb : Bool} {x : Int} (hb : h.tr.get b = some (.blk [.int .i64 x] rb o s)) :
    Does FF n_slices_Repeat_int_int [.slice (some ⟨b, 0, none⟩) 1 c, .int .i64 n] h (fun v h' => Grows Nob h h' ∧ ∃ d s, v = .slice (some ⟨d, 0, none⟩) n n ∧ h.next ≤ d ∧ h'.tr.get d = some (.blk (encI.flat (List.replicate n x)) false 0 s)) := by
  cases n with
  | zero => exact repeat_zero encI (z := [.int .i64 0]) (bytes := 8) c_slices_Repeat_int_int rfl ok
  | succ n => exact repeat_ints ok (n + 1) ⟨by omega, hn⟩ (ro := 0) hb

theorem checkof_one {h : Heap} (ok : HOk h) {name : ByteArray} {p N : Nat} {blocks phis list to : SV} {r : Bool} {n : Int} {xs : List Own} (hB : OneB h blocks phis list r n to) (hph : phis.l = 0) (hto : to.l = 0)
    (hs : SliceOf encOwn h list.v xs) (hx : ∀ j x, xs[j]? = some x → InOrd p j x) (hlen : N < 1000000) (hNp : p + xs.length ≤ N) (hon : r = true → ∃ k : Nat, n = k ∧ k < xs.length + p) :
    Does FF n_ssa_CheckOf [.agg ⟨fnCells name p N blocks⟩] h (fun v h' => v = .int .i64 0 ∧ Grows Nob h h') := by
  obtain ⟨hl, b, ro, o, s, ha, hb⟩ := id hB
  have oB := ok.old hb
  refine Does.of c_ssa_CheckOf ?_
  unfold b_ssa_CheckOf
  simp [fnCells, hl, ha]
  have g0 : Grows Nob h (tick (newBlk h [.string name, .int .i64 p, .int .i64 N, .slice (some ⟨b, 0, none⟩) 1 blocks.c] 0)) := (grow_newBlk ok _ _).tick
  refine DrawR.cut (fun h1 => Grows Nob h h1 ∧ h1.tr.get h.next = some (.blk [.string name, .int .i64 p, .int .i64 N, .slice (some ⟨b, 0, none⟩) 1 blocks.c] false 0 0) ∧ h1.tr.get (h.next + 1) = some (.blk [.int .i64 (-1), .int .i64 (-1)] false 0 0)) ⟨g0.new _ _, by simp, by simp⟩ ?_
  rintro h1 ⟨g1, hF1, hW1⟩
  refine DrawR.call (by simpa [fnCells, hl, ha] using tree_one g1.ok (name := name) (params := p) (regs := N) (hB.grow ok g1) hto) ?_
  rintro _ h2 ⟨g2, up, rfl, hup, s2, hU2⟩
  have hF2 := g2.get g1.ok hF1 (fun h => h)
  have hW2 := g2.get g1.ok hW1 (fun h => h)
  simp [hF2, hW2]
  have gg2 := g1.trans g2
  refine DrawR.call (by simpa using repeat_w gg2.ok N (by omega) (x := (-1, -1)) hW2) ?_
  rintro _ h3 ⟨g3, W, rfl, hWl, s3, hW3⟩
  have gg3 := gg2.trans g3
  have hF3 := g3.get gg2.ok hF2 (fun h => h)
  have oF3 := gg3.ok.old hF3
  simp [hF3, oF3]
  refine DrawR.cut (fun h4 => Grows Nob h3 h4 ∧ h4.tr.get h3.next = some (.blk (scCells name p N blocks ⟨some ⟨up, 0, none⟩, 1, 1⟩ ⟨some ⟨W, 0, none⟩, N, N⟩) false 0 0)) ?_ ?_
  · exact ⟨((Grows.refl gg3.ok).new _ _).tick, by simp [scCells, hl, ha]⟩
  rintro h4 ⟨g4, hC4⟩
  have gg4 := gg3.trans g4
  have hF4 := g4.get gg3.ok hF3 (fun h => h)
  have hW4 := g4.get gg3.ok hW3 (fun h => h)
  refine DrawR.call (by simpa [fnCells, hl, ha] using post_does gg4.ok (name := name) (params := p) (regs := N) (hB.grow ok gg4) hto) ?_
  rintro _ h5 ⟨g5, d5, rfl, hd5, s5, hD5⟩
  have gg5 := gg4.trans g5
  have hF5 := g5.get gg4.ok hF4 (fun h => h)
  have hW5 := g5.get gg4.ok hW4 (fun h => h)
  have hC5 := g5.get gg4.ok hC4 (fun h => h)
  simp [hF5]
  have oN : Old W h4 := gg4.ok.old hW4
  have c1 : h3.next ≠ W := by have := gg3.ok.old hW3; have := this.lt; omega
  have c2 : xs ≠ [] → ∀ b, BlkOf list.v b → b ≠ W := by
    rintro hne x ⟨off, nn, cap, e⟩
    obtain ⟨a, cap', e2, h2⟩ := hs
    rw [e] at e2
    injection e2 with e2 e3 e4
    rcases h2 with h2 | ⟨b2, off2, cs2, ro2, o2, st2, e5, hb2, _⟩
    · exact absurd h2.1 hne
    · rw [e5] at e2
      cases e2
      have := ok.old hb2
      have := this.lt
      have := gg2.next
      omega
  have c3 : ∀ b, BlkOf blocks.v b → b ≠ W := by
    rintro x ⟨off, nn, cap, e⟩
    simp [ha] at e
    have := oB.lt
    have := gg2.next
    omega
  refine OpsR.call (by simpa using writes_one gg5.ok (p := p) (hB.grow ok gg5) hph (hs.nob ok gg5) hx hlen hNp (by exact hC5) (by rw [wsD_zero]; exact hW5) c1 c2 c3) ?_
  rintro _ h6 ⟨rfl, g6, s6, hW6⟩
  have hC6 := g6.get gg5.ok hC5 c1
  have gg6 : Grows Nob h h6 := gg5.trans' g6 (fun _ _ h => h) (by rintro x hx rfl; have := gg2.next; omega)
  simp
  refine OpsR.call (by simpa using uses_one gg6.ok (p := p) (hB.grow ok gg6) hph hto (hs.nob ok gg6) hx hlen hNp hon (by exact hC6) hW6) ?_
  rintro _ h7 ⟨rfl, g7⟩
  simp
  exact gg6.trans g7
end Go.Proofs.YtigniafapkbbbaaGreatDoor

/- Contracts: code.checker's head, of a function of one block; names. -/
namespace Go.Proofs.YtigniafapkbbbaaGreatDoor
open Go.AI

def sMain : ByteArray := ⟨⟨[109, 97, 105, 110]⟩⟩
def sF : ByteArray := ⟨⟨[102]⟩⟩

theorem name_main (h : Heap) : Does FF n_core_Name [.string sMain] h (fun v h' => v = .bool true ∧ h' = h) := ⟨200, .bool true, h, by kernel_rfl, rfl, rfl⟩
theorem name_f (h : Heap) : Does FF n_core_Name [.string sF] h (fun v h' => v = .bool true ∧ h' = h) := ⟨200, .bool true, h, by kernel_rfl, rfl, rfl⟩

theorem contains_nil (h : Heap) (s : SV) (hs : s.l = 0) (x : Value) : Does FF n_slices_Contains_string_string [s.v, x] h (fun v h' => v = .bool false ∧ h' = h) := by
  refine Does.of c_slices_Contains_string_string ?_
  unfold b_slices_Contains_string_string
  simp
  refine OpsR.call (V := fun v h' => v = .int .i64 (-1) ∧ h' = h) ?_ ?_
  · refine Does.of c_slices_Index_string_string ?_
    unfold b_slices_Index_string_string
    simp [hs]
    rw [runs_loop]
    unfold r_slices_Index_string_string_0
    simp
  · rintro _ h' ⟨rfl, rfl⟩
    simp

theorem contains_one {h : Heap} {b c o s : Nat} {ro : Bool} {x y : ByteArray} (hb : h.tr.get b = some (.blk [.string y] ro o s)) (hxy : (x == y) = false) :
    Does FF n_slices_Contains_string_string [.slice (some ⟨b, 0, none⟩) 1 c, .string x] h (fun v h' => v = .bool false ∧ h' = h) := by
  have w1 : IntKind.i64.wrap (0 + 1) = 1 := wrap_i64 _ (by omega) (by omega)
  have w1' : IntKind.i64.wrap 1 = 1 := wrap_i64 _ (by omega) (by omega)
  refine Does.of c_slices_Contains_string_string ?_
  unfold b_slices_Contains_string_string
  simp
  refine OpsR.call (V := fun v h' => v = .int .i64 (-1) ∧ h' = h) ?_ ?_
  · refine Does.of c_slices_Index_string_string ?_
    unfold b_slices_Index_string_string
    simp
    rw [runs_loop]
    unfold r_slices_Index_string_string_0
    simp [hb, hxy, w1, w1']
    rw [runs_loop]
    simp
  · rintro _ h' ⟨rfl, rfl⟩
    simp

theorem head_one {h : Heap} (ok : HOk h) {gs fs blocks ah phis list to : SV} {name : ByteArray} {params regs : Int} {r : Bool} {n : Int} {names : Value} (hp : 0 ≤ params ∧ params ≤ 6) (hr : params ≤ regs ∧ regs ≤ 100) (hB : OneB h blocks phis list r n to) (hph : phis.l = 0) (hll : list.l ≤ 300)
    (hN : ∀ h, Does FF n_core_Name [.string name] h (fun v h' => v = .bool true ∧ h' = h)) (hC : ∀ h1, Grows Nob h h1 → Does FF n_slices_Contains_string_string [names, .string name] h1 (fun v h' => v = .bool false ∧ h' = h1)) :
    Does FF n_code_checker_head [.agg ⟨ckCells gs fs name params regs blocks ah⟩, names] h (fun v h' => v = .int .i64 0 ∧ Grows Nob h h') := by
  obtain ⟨hl, b, ro, o, s, ha, hb⟩ := id hB
  have w1 : IntKind.i64.wrap (0 + 1) = 1 := wrap_i64 _ (by omega) (by omega)
  have w1' : IntKind.i64.wrap 1 = 1 := wrap_i64 _ (by omega) (by omega)
  have oB := ok.old hb
  have hb' : h.tr.get b = some (.blk [.slice phis.a 0 phis.c, .slice list.a list.l list.c, .int .i64 1, .bool r, .int .i64 n, .slice to.a to.l to.c] ro o s) := by rw [hb]; simp [blkCells, hph]
  have wl : IntKind.i64.wrap (list.l : Int) = list.l := wrap_i64 _ (by omega) (by omega)
  have wl' : IntKind.i64.wrap (0 + (list.l : Int)) = list.l := by rw [Int.zero_add]; exact wl
  have hm : ¬ (300 : Int) < list.l := by omega
  refine Does.of c_code_checker_head ?_
  unfold b_code_checker_head
  simp [ckCells, hl, ha]
  have g0 := grow_newBlk ok (ckCells gs fs name params regs blocks ah) 0
  have hC0 := get_newBlk h (ckCells gs fs name params regs blocks ah) 0
  have e0 : newBlk h [.slice gs.a gs.l gs.c, .slice fs.a fs.l fs.c, .string name, .int .i64 params, .int .i64 regs, .slice (some ⟨b, 0, none⟩) 1 blocks.c, .slice ah.a ah.l ah.c] 0 = newBlk h (ckCells gs fs name params regs blocks ah) 0 := by simp [ckCells, hl, ha]
  rw [e0]
  generalize newBlk h (ckCells gs fs name params regs blocks ah) 0 = h0 at *
  have hC0' : h0.tr.get h.next = some (.blk [.slice gs.a gs.l gs.c, .slice fs.a fs.l fs.c, .string name, .int .i64 params, .int .i64 regs, .slice (some ⟨b, 0, none⟩) 1 blocks.c, .slice ah.a ah.l ah.c] false 0 0) := by rw [hC0]; simp [ckCells, hl, ha]
  have hb0 := g0.get ok hb' (fun h => h)
  have ob0 := g0.ok.old hb0
  rw [runs_loop]
  unfold r_code_checker_head_0
  simp [hb0, ob0, wl, wl', w1, w1']
  rw [runs_loop]
  have oC0 := g0.ok.old hC0'
  simp [hC0', oC0]
  refine OpsR.cut (fun h1 => Grows Nob h0 h1) ?_ ?_
  · exact (Grows.refl g0.ok).var _ _
  intro h1 g1
  have gg1 := g0.trans g1
  have hC1 := g1.get g0.ok hC0' (fun h => h)
  refine OpsR.call (by simpa using hN h1) ?_
  rintro _ h1' ⟨rfl, e1⟩
  rw [e1]
  simp [hC1]
  refine OpsR.call (by simpa using hC h1 gg1) ?_
  rintro _ h1' ⟨rfl, e2⟩
  rw [e2]
  simp [hC1]
  refine OpsR.call (by simpa using within_does h1 params 0 6) ?_
  rintro _ h1' ⟨rfl, e2⟩
  rw [e2]
  simp [hC1, hp.1, hp.2]
  refine OpsR.call (by simpa using within_does h1 regs params 100) ?_
  rintro _ h1' ⟨rfl, e2⟩
  rw [e2]
  simp [hC1, hr.1, hr.2]
  refine OpsR.call (by simpa using within_does h1 1 1 40) ?_
  rintro _ h1' ⟨rfl, e2⟩
  rw [e2]
  simp [hm]
  exact gg1
end Go.Proofs.YtigniafapkbbbaaGreatDoor

/- Contract: code.Check of a unit of main and one function, each of one block, in order. -/
namespace Go.Proofs.YtigniafapkbbbaaGreatDoor
open Go.AI

/-- A function of one block in order lies there. -/
structure FnOk (h : Heap) (p N : Nat) (blocks : SV) (r : Bool) (n : Int) (xs : List Own) where
  phis : SV
  list : SV
  to : SV
  one : OneB h blocks phis list r n to
  hph : phis.l = 0
  hto : to.l = 0
  sl : SliceOf encOwn h list.v xs
  ord : ∀ j x, xs[j]? = some x → InOrd p j x
  cnt : p + xs.length ≤ N
  on : r = true → ∃ k : Nat, n = k ∧ k < xs.length + p
  hpn : phis = ⟨none, 0, 0⟩
  htn : to = ⟨none, 0, 0⟩

def FnOk.grow {h h' : Heap} {p N : Nat} {blocks : SV} {r : Bool} {n : Int} {xs : List Own} (f : FnOk h p N blocks r n xs) (ok : HOk h) (g : Grows Nob h h') : FnOk h' p N blocks r n xs :=
  ⟨f.phis, f.list, f.to, f.one.grow ok g, f.hph, f.hto, f.sl.nob ok g, f.ord, f.cnt, f.on, f.hpn, f.htn⟩

theorem FnOk.llen {h : Heap} {p N : Nat} {blocks : SV} {r : Bool} {n : Int} {xs : List Own} (f : FnOk h p N blocks r n xs) : f.list.l = xs.length := by
  obtain ⟨a, cap, e, _⟩ := f.sl
  simp at e
  exact e.2.1

theorem inOrder_of {p N j : Nat} {x : Own} (q : InOrd p j x) (hj : j + p < N) : InOrder N x := by
  refine ⟨q.op, ?_, ?_, ?_⟩
  · rw [q.dst]; unfold dstM; rw [if_neg]; intro h; exact h (by omega)
  · unfold valM; rw [if_neg]
    rintro ⟨h1, h2⟩
    obtain ⟨k, e, hk⟩ := q.a h1
    rw [e] at h2
    exact h2 (by omega)
  · unfold valM; rw [if_neg]
    rintro ⟨h1, h2⟩
    obtain ⟨k, e, hk⟩ := q.b h1
    rw [e] at h2
    exact h2 (by omega)

theorem body_ok {h : Heap} (ok : HOk h) (hw : Ways h) {gs fs blocks ah : SV} {name : ByteArray} {p N : Nat} {r : Bool} {n : Int} {xs : List Own} (f : FnOk h p N blocks r n xs) (hN : N < 100000) :
    Does FF n_code_checker_body [.agg ⟨ckCells gs fs name p N blocks ah⟩] h (fun v h' => v = .int .i64 0 ∧ Grows Nob h h') := by
  refine body_one ok hw (by omega) f.one f.hto f.hph ?_ f.sl ?_ (by have := f.cnt; omega)
  · unfold valM; rw [if_neg]
    rintro ⟨h1, h2⟩
    obtain ⟨k, e, hk⟩ := f.on h1
    rw [e] at h2
    have := f.cnt
    exact h2 (by omega)
  · intro x hx
    obtain ⟨j, hj⟩ := List.getElem?_of_mem hx
    have := (List.getElem?_eq_some_iff.mp hj).1
    exact inOrder_of (f.ord j x hj) (by have := f.cnt; omega)

theorem isMain_does (h : Heap) (ok : HOk h) (name : ByteArray) (a b : Int) (s : SV) : Does FF n_code_Check_1 [.agg ⟨[.string name, .int .i64 a, .int .i64 b, s.v]⟩] h (fun v h' => v = .bool (name == sMain) ∧ Grows Nob h h') := by
  refine Does.of c_code_Check_1 ?_
  unfold b_code_Check_1
  simp
  exact ⟨rfl, grow_newBlk ok _ _⟩

theorem index_main {h : Heap} (ok : HOk h) {b c o s : Nat} {ro : Bool} {a1 a2 : Int} {s1 : SV} {rest : List Value} (hb : h.tr.get b = some (.blk ([.string sMain, .int .i64 a1, .int .i64 a2, s1.v] ++ rest) ro o s)) :
    Does FF n_slices_IndexFunc_api_Func_api_Func [.slice (some ⟨b, 0, none⟩) 2 c, .func (.func n_code_Check_1) #[] #[]] h (fun v h' => v = .int .i64 0 ∧ Grows Nob h h') := by
  refine Does.of c_slices_IndexFunc_api_Func_api_Func ?_
  unfold b_slices_IndexFunc_api_Func_api_Func
  simp
  rw [runs_loop]
  unfold r_slices_IndexFunc_api_Func_api_Func_0
  simp [hb]
  refine OpsR.callV (V := fun v h' => v = .bool true ∧ Grows Nob h h') ?_ ?_
  · simp
    refine DoesV.func ?_
    have := isMain_does h ok sMain a1 a2 s1
    rw [show (sMain == sMain) = true from rfl] at this
    simpa using this
  · rintro _ h' ⟨rfl, g⟩
    simp
    exact g

theorem check_two {h : Heap} (ok : HOk h) (hw : Ways h) {gl mB fB : SV} {Fb fc o s N : Nat} {ro : Bool} {n1 n2 : Int} {r1 r2 : Bool} {xs : List Own} (hgl : gl.l = 0) (m : FnOk h 0 0 mB r1 n1 []) (f : FnOk h 1 N fB r2 n2 xs) (hN : N ≤ 100)
    (hF : h.tr.get Fb = some (.blk (fnCells sMain 0 0 mB ++ fnCells sF 1 N fB) ro o s)) :
    Does FF n_code_Check [.agg ⟨[gl.v, .slice (some ⟨Fb, 0, none⟩) 2 fc]⟩] h (fun v h' => v = .agg #[.int .i64 0, .int .i64 0] ∧ Grows Nob h h') := by
  have w1 : IntKind.i64.wrap (0 + 1) = 1 := wrap_i64 _ (by omega) (by omega)
  have w1' : IntKind.i64.wrap 1 = 1 := wrap_i64 _ (by omega) (by omega)
  have w2 : IntKind.i64.wrap (1 + 1) = 2 := wrap_i64 _ (by omega) (by omega)
  have w2' : IntKind.i64.wrap 2 = 2 := wrap_i64 _ (by omega) (by omega)
  have oF := ok.old hF
  have hF' : h.tr.get Fb = some (.blk [.string sMain, .int .i64 0, .int .i64 0, .slice mB.a mB.l mB.c, .string sF, .int .i64 1, .int .i64 N, .slice fB.a fB.l fB.c] ro o s) := hF
  refine Does.of c_code_Check ?_
  unfold b_code_Check
  simp [hgl]
  rw [runs_loop]
  unfold r_code_Check_2
  simp
  refine Runs.cut (fun h1 => Grows Nob h h1 ∧ h1.tr.get h.next = some (.blk [.slice gl.a 0 gl.c, .slice (some ⟨Fb, 0, none⟩) 2 fc] false 0 0) ∧ h1.tr.get (h.next + 1) = some (.blk [.int .i64 0, .int .i64 0] false 0 0)) ?_ ?_
  · exact ⟨((Grows.refl ok).new _ _).new _ _, by simp, by simp⟩
  rintro h1 ⟨g1, hU1, hR1⟩
  have hF1 := g1.get ok hF' (fun h => h)
  have oF1 := g1.ok.old hF1
  have oU1 := g1.ok.old hU1
  -- the heads
  rw [runs_loop]
  unfold r_code_Check_1
  simp [hF1, oF1, hU1, oU1]
  refine OpsR.cut (fun h2 => Grows Nob h1 h2 ∧ ∃ s, h2.tr.get h1.next = some (.blk [.string sMain, .int .i64 0, .int .i64 0, .slice mB.a mB.l mB.c] false 0 s)) ?_ ?_
  · refine ⟨?_, h1.clock, by simp⟩
    repeat (first | exact .refl g1.ok | apply Grows.new | refine Grows.put ?_ (by simp) (by simp))
  rintro h2 ⟨g2, s2, hM2⟩
  have gg2 := g1.trans g2
  have m2 := m.grow ok gg2
  refine OpsR.call (by simpa [ckCells] using head_one gg2.ok (gs := ⟨gl.a, 0, gl.c⟩) (fs := ⟨some ⟨Fb, 0, none⟩, 2, fc⟩) (blocks := mB) (ah := ⟨none, 0, 0⟩) (name := sMain) (params := 0) (regs := 0) (names := .slice none 0 0) (by omega) (by omega) m2.one m2.hph (by rw [m2.llen]; simp) name_main (fun h3 _ => by simpa using contains_nil h3 ⟨none, 0, 0⟩ rfl (.string sMain))) ?_
  rintro _ h3 ⟨rfl, g3⟩
  have hM3 := g3.get gg2.ok hM2 (fun h => h)
  have gg3 := gg2.trans g3
  simp [hM3, appendF, news, appendV, roomy, w1, w1']
  refine Runs.cut (fun h4 => Grows Nob h3 h4 ∧ ∃ s, h4.tr.get (h3.next + 1) = some (.blk [.string sMain] false 1 s)) ?_ ?_
  · exact ⟨((Grows.refl gg3.ok).new _ _).new _ _, 0, by simp⟩
  rintro h4 ⟨g4, s4, hN4⟩
  have gg4 := gg3.trans g4
  have t4 := (g2.trans g3).trans g4
  have hF4 := t4.get g1.ok hF1 (fun h => h)
  have hU4 := t4.get g1.ok hU1 (fun h => h)
  have oF4 := gg4.ok.old hF4
  have oU4 := gg4.ok.old hU4
  rw [runs_loop]
  try unfold r_code_Check_1
  simp [hF4, oF4, hU4, oU4]
  refine OpsR.cut (fun h5 => Grows Nob h4 h5 ∧ ∃ s, h5.tr.get h4.next = some (.blk [.string sF, .int .i64 1, .int .i64 N, .slice fB.a fB.l fB.c] false 0 s)) ?_ ?_
  · refine ⟨?_, h4.clock, by simp⟩
    repeat (first | exact .refl gg4.ok | apply Grows.new | refine Grows.put ?_ (by simp) (by simp))
  rintro h5 ⟨g5, s5, hM5⟩
  have gg5 := gg4.trans g5
  have f5 := f.grow ok gg5
  have hN5 := g5.get gg4.ok hN4 (fun h => h)
  refine OpsR.call (by simpa [ckCells] using head_one gg5.ok (gs := ⟨gl.a, 0, gl.c⟩) (fs := ⟨some ⟨Fb, 0, none⟩, 2, fc⟩) (blocks := fB) (ah := ⟨none, 0, 0⟩) (name := sF) (params := 1) (regs := N) (names := .slice (some ⟨h3.next + 1, 0, none⟩) 1 1) (by omega) (by have := f.cnt; omega) f5.one f5.hph (by rw [f5.llen]; have := f.cnt; omega) name_f (fun h6 g6 => contains_one (g6.get gg5.ok hN5 (fun h => h)) (by rfl))) ?_
  rintro _ h6 ⟨rfl, g6⟩
  have gg6 := gg5.trans g6
  have hM6 := g6.get gg5.ok hM5 (fun h => h)
  have hN6 := g6.get gg5.ok hN5 (fun h => h)
  have oN6 := gg6.ok.old hN6
  simp [hM6, hN6, oN6, appendF, news, appendV, roomy, w2, w2']
  refine Runs.cut (fun h7 => Grows (· = h3.next + 1) h6 h7) ?_ ?_
  · exact (((Grows.refl gg6.ok).new _ _).trans (grow_del (grow_newBlk gg6.ok _ _).ok _)).new _ _
  intro h7 g7
  have lt3 : h1.next ≤ h3.next := (g2.trans g3).next
  have gg7 : Grows Nob h h7 := gg6.trans' g7 (fun _ _ h => h) (by rintro x hx rfl; have := gg3.next; omega)
  have t6 := (t4.trans g5).trans g6
  have hF7 := g7.get gg6.ok (t6.get g1.ok hF1 (fun h => h)) (by have := oF1.lt; omega)
  have hU7 := g7.get gg6.ok (t6.get g1.ok hU1 (fun h => h)) (by have := oU1.lt; omega)
  have hR7 := g7.get gg6.ok (t6.get g1.ok hR1 (fun h => h)) (by have := (g1.ok.old hR1).lt; omega)
  have oF7 := gg7.ok.old hF7
  have oU7 := gg7.ok.old hU7
  rw [runs_loop]
  try unfold r_code_Check_1
  simp [hU7]
  -- the bodies
  rw [runs_loop]
  unfold r_code_Check_0
  simp [hF7, oF7, hU7, oU7]
  refine OpsR.cut (fun h8 => Grows Nob h7 h8) ?_ ?_
  · repeat (first | exact .refl gg7.ok | apply Grows.new | refine Grows.put ?_ (by simp) (by simp))
  intro h8 g8
  have gg8 := gg7.trans g8
  refine OpsR.call (by simpa [ckCells] using body_ok gg8.ok (hw.grow ok gg8) (gs := ⟨gl.a, 0, gl.c⟩) (fs := ⟨some ⟨Fb, 0, none⟩, 2, fc⟩) (blocks := mB) (ah := ⟨none, 0, 0⟩) (name := sMain) (m.grow ok gg8) (by omega)) ?_
  rintro _ h9 ⟨rfl, g9⟩
  have gg9 := gg8.trans g9
  have hF9 := (g8.trans g9).get gg7.ok hF7 (fun h => h)
  have hU9 := (g8.trans g9).get gg7.ok hU7 (fun h => h)
  have hR9 := (g8.trans g9).get gg7.ok hR7 (fun h => h)
  have oF9 := gg9.ok.old hF9
  have oU9 := gg9.ok.old hU9
  simp [w1, w1']
  rw [runs_loop]
  try unfold r_code_Check_0
  simp [hF9, oF9, hU9, oU9]
  refine OpsR.cut (fun h10 => Grows Nob h9 h10) ?_ ?_
  · repeat (first | exact .refl gg9.ok | apply Grows.new | refine Grows.put ?_ (by simp) (by simp))
  intro h10 g10
  have gg10 := gg9.trans g10
  refine OpsR.call (by simpa [ckCells] using body_ok gg10.ok (hw.grow ok gg10) (gs := ⟨gl.a, 0, gl.c⟩) (fs := ⟨some ⟨Fb, 0, none⟩, 2, fc⟩) (blocks := fB) (ah := ⟨none, 0, 0⟩) (name := sF) (f.grow ok gg10) (by omega)) ?_
  rintro _ h11 ⟨rfl, g11⟩
  have gg11 := gg10.trans g11
  have hF11 := (g10.trans g11).get gg9.ok hF9 (fun h => h)
  have hU11 := (g10.trans g11).get gg9.ok hU9 (fun h => h)
  have hR11 := (g10.trans g11).get gg9.ok hR9 (fun h => h)
  simp [w2, w2']
  rw [runs_loop]
  try unfold r_code_Check_0
  simp [hU11]
  refine OpsR.call (by simpa using index_main gg11.ok (a1 := 0) (a2 := 0) (s1 := mB) (rest := [.string sF, .int .i64 1, .int .i64 N, .slice fB.a fB.l fB.c]) (c := fc) (by simpa using hF11)) ?_
  rintro _ h12 ⟨rfl, g12⟩
  have hF12 := g12.get gg11.ok hF11 (fun h => h)
  have hU12 := g12.get gg11.ok hU11 (fun h => h)
  have hR12 := g12.get gg11.ok hR11 (fun h => h)
  simp [hU12, hF12, hR12]
  exact (gg11.trans g12).put ⟨_, hR12⟩ (.inl (by omega))
end Go.Proofs.YtigniafapkbbbaaGreatDoor
