/- Contracts: code.Ahead, run.walker's enter. -/
import Derived.Test.YtehbhfobjechpaaGreatDoorKG
namespace Go.Proofs.YtehbhfobjechpaaGreatDoor
open Go.AI

theorem cahead_one {h : Heap} (ok : HOk h) (hw : Ways h) {gl mB : SV} {Fb fc o s N : Nat} {ro : Bool} {n1 : Int} {r1 : Bool} {xs : List Own} (hgl : gl.l = 0) (m : FnOk h 0 N mB r1 n1 xs) (hN : N ≤ 100)
    (hF : h.tr.get Fb = some (.blk (fnCells sMain 0 N mB) ro o s)) :
    Does FF n_code_Ahead [.agg ⟨[gl.v, .slice (some ⟨Fb, 0, none⟩) 1 fc]⟩, .int .i64 0] h (fun v h' => Grows Nob h h' ∧ ∃ b s, v = .tuple #[.slice (some ⟨b, 0, none⟩) 1 1, .agg #[.int .i64 0, .int .i64 0]] ∧ h.next ≤ b ∧ h'.tr.get b = some (.blk [.slice none 0 0] false 0 s)) := by
  have hF' : h.tr.get Fb = some (.blk [.string sMain, .int .i64 0, .int .i64 N, .slice mB.a mB.l mB.c] ro o s) := hF
  have w0 : IntKind.i64.wrap (1 - 1) = 0 := wrap_i64 _ (by omega) (by omega)
  have w0' : IntKind.i64.wrap 0 = 0 := wrap_i64 _ (by omega) (by omega)
  refine Does.of c_code_Ahead ?_
  unfold b_code_Ahead
  simp [hgl]
  refine OpsR.cut (fun h1 => Grows Nob h h1 ∧ h1.tr.get h.next = some (.blk [.slice gl.a 0 gl.c, .slice (some ⟨Fb, 0, none⟩) 1 fc] false 0 0) ∧ h1.tr.get (h.next + 1) = some (.blk [.int .i64 0, .int .i64 0] false 0 0)) ?_ ?_
  · exact ⟨((Grows.refl ok).new _ _).new _ _, by simp, by simp⟩
  rintro h1 ⟨g1, hU1, hR1⟩
  refine OpsR.call (by simpa [hgl] using check_one g1.ok (hw.grow ok g1) (gl := gl) hgl (m.grow ok g1) hN (fc := fc) (g1.get ok hF (fun h => h))) ?_
  rintro _ h2 ⟨rfl, g2⟩
  have gg2 := g1.trans g2
  have hF2 := gg2.get ok hF' (fun h => h)
  have hU2 := g2.get g1.ok hU1 (fun h => h)
  have hR2 := g2.get g1.ok hR1 (fun h => h)
  have oF2 := gg2.ok.old hF2
  have oU2 := gg2.ok.old hU2
  have oR2 := gg2.ok.old hR2
  simp [hU2, oU2, w0, w0']
  refine OpsR.cut (fun h3 => Grows Nob h2 h3) ?_ ?_
  · repeat (first | exact .refl gg2.ok | apply Grows.new | refine Grows.put ?_ (by simp) (by simp))
  intro h3 g3
  have gg3 := gg2.trans g3
  have hU3 := g3.get gg2.ok hU2 (fun h => h)
  have hF3 := g3.get gg2.ok hF2 (fun h => h)
  have hR3 := g3.get gg2.ok hR2 (fun h => h)
  refine OpsR.call (by simpa using within_does h3 0 0 0) ?_
  rintro _ h3' ⟨rfl, e3⟩
  rw [e3]
  simp [hU3, hF3]
  refine OpsR.call (by simpa using ahead_one gg3.ok (name := sMain) (params := 0) (regs := N) (m.grow ok gg3).one m.hto) ?_
  rintro _ h4 ⟨g4, b, rfl, hb, s4, hB4⟩
  have gg4 := gg3.trans g4
  have hR4 := g4.get gg3.ok hR3 (fun h => h)
  have nb : ¬ b = h.next + 1 := by have := gg3.ok.old hR3; have := this.lt; omega
  simp [hR4]
  refine ⟨gg4.put ⟨_, hR4⟩ (.inl (by omega)), ?_, s4, ?_⟩
  · have := gg3.next; omega
  · simpa [nb] using hB4

theorem repl_int (n : Nat) : repl [Value.int .i64 0] n = encI.flat (List.replicate n 0) := repl_eq encI 0 rfl n

theorem enter_does {h : Heap} (ok : HOk h) {w Fb fcc N CB C1 : Nat} {ah : SV} {mB : SV} {s0 s1 s2 s3 o1 o2 o3 : Nat} {ro1 ro2 : Bool} (hN : N < 1000)
    (hw : h.tr.get w = some (.blk (wkCells ⟨some ⟨Fb, 0, none⟩, 1, fcc⟩ ah 0 0 0 ⟨none, 0, 0⟩ ⟨some ⟨CB, 0, none⟩, 1, 1⟩) false 0 s0)) (hF : h.tr.get Fb = some (.blk (fnCells sMain 0 N mB) ro1 o1 s1))
    (hCB : h.tr.get CB = some (.blk [.slice (some ⟨C1, 0, none⟩) 1 1] ro2 o2 s2)) (hC1 : h.tr.get C1 = some (.blk [.int .i64 0] false o3 s3)) (nw1 : w ≠ CB) (nw2 : w ≠ C1) :
    Does FF n_run_walker_enter [.pointer (some ⟨w, 0, none⟩), .int .i64 0, .int .i64 (-1), .slice none 0 0] h (fun _ h' => Grows (fun x => x = w ∨ x = C1) h h' ∧ ∃ FR RG, h.next ≤ FR ∧ h.next ≤ RG ∧
      Wk h' w FR RG ⟨some ⟨Fb, 0, none⟩, 1, fcc⟩ ah ⟨some ⟨CB, 0, none⟩, 1, 1⟩ 1 0 0 0 0 (List.replicate N 0)) := by
  have hw' : h.tr.get w = some (.blk [.slice none 0 0, .slice (some ⟨Fb, 0, none⟩) 1 fcc, .slice ah.a ah.l ah.c, .slice none 0 0, .slice none 0 0, .int .i64 0, .int .i64 0, .slice none 0 0, .int .i64 0, .slice none 0 0, .slice (some ⟨CB, 0, none⟩) 1 1] false 0 s0) := hw
  have hF' : h.tr.get Fb = some (.blk [.string sMain, .int .i64 0, .int .i64 N, .slice mB.a mB.l mB.c] ro1 o1 s1) := hF
  have ow := ok.old hw
  have oF := ok.old hF
  have oCB := ok.old hCB
  have oC1 := ok.old hC1
  have wn : IntKind.i64.wrap (N : Int) = N := wrap_i64 _ (by omega) (by omega)
  have r1 : roomy N = true := by simp [roomy]; omega
  have r3 : roomy 1 = true := rfl
  have r4 : roomy 56 = true := rfl
  have r2 : roomy (N * 8) = true := by simp [roomy]; omega
  have nCw : ¬ CB = w := Ne.symm nw1
  have nC1w : ¬ C1 = w := Ne.symm nw2
  have w1 : IntKind.i64.wrap (0 + 1) = 1 := wrap_i64 _ (by omega) (by omega)
  have w1' : IntKind.i64.wrap 1 = 1 := wrap_i64 _ (by omega) (by omega)
  refine Does.of c_run_walker_enter ?_
  unfold b_run_walker_enter
  simp [hw', hF', wn, r1, r2, ow, oF, oCB, oC1, hCB, hC1, nCw, nC1w, nw1, nw2, appendF, news, appendV, r3, r4, repl_int, w1, w1', Nat.add_assoc]
  refine ⟨?_, h.next + 2, by omega, h.next, Nat.le_refl _, ⟨h.clock, ?_⟩, ⟨0, ?_⟩, ⟨0, ?_⟩, ?_, ?_, ?_⟩
  · refine Grows.put (Grows.put ((((Grows.refl ok).new _ _).new _ _).new _ _) ⟨s0, ?_⟩ (.inr (.inl rfl))) ⟨s3, ?_⟩ (.inr (.inr rfl))
    · simp [ow, hw', Nat.add_assoc]
    · simp [oC1, hC1, nC1w, Nat.add_assoc]
  · simp [nw2, wkCells]
  · have e1 : ¬ h.next + 2 = w := by have := ow.lt; omega
    have e2 : ¬ h.next + 2 = C1 := by have := oC1.lt; omega
    simp [e1, e2, frCells, Nat.add_assoc]
  · have e1 : ¬ h.next = w := by have := ow.lt; omega
    have e2 : ¬ h.next = C1 := by have := oC1.lt; omega
    simp [e1, e2, Nat.add_assoc]
  · have := ow.lt; omega
  · have := ow.lt; omega
  · omega
end Go.Proofs.YtehbhfobjechpaaGreatDoor

/- Contracts: run.Counts, run.Do of a unit of main alone, of one block. -/
namespace Go.Proofs.YtehbhfobjechpaaGreatDoor
open Go.AI

/-- what a run comes to: its state, and the value -/
def goM (r : Bool) (n : Int) : List Own → Nat → List Int → Int × Int
  | [], _, regs => (0, valOf regs r n)
  | x :: xs, j, regs => if (twoM x.op (valOf regs x.ar x.an) (valOf regs x.br x.bn)).2 then goM r n xs (j + 1) (regs.set j (twoM x.op (valOf regs x.ar x.an) (valOf regs x.br x.bn)).1) else (2, 0)

def outM (N : Nat) (xs : List Own) (r : Bool) (n : Int) : Int × Int := goM r n xs 0 (List.replicate N 0)

theorem goM_some {r : Bool} {n : Int} {xs : List Own} {j : Nat} {x : Own} {regs : List Int} (hx : xs[j]? = some x) :
    goM r n (xs.drop j) j regs = if (twoM x.op (valOf regs x.ar x.an) (valOf regs x.br x.bn)).2 then goM r n (xs.drop (j + 1)) (j + 1) (regs.set j (twoM x.op (valOf regs x.ar x.an) (valOf regs x.br x.bn)).1) else (2, 0) := by
  obtain ⟨hl, e⟩ := List.getElem?_eq_some_iff.mp hx
  rw [List.drop_eq_getElem_cons hl, e]
  rfl
theorem goM_none {r : Bool} {n : Int} {xs : List Own} {j : Nat} {regs : List Int} (hj : xs.length ≤ j) : goM r n (xs.drop j) j regs = (0, valOf regs r n) := by
  rw [List.drop_eq_nil_of_le hj]; rfl

theorem counts_does {h : Heap} (ok : HOk h) (hw : Ways h) {mB : SV} {Fb fc o s N : Nat} {ro : Bool} {n1 : Int} {r1 : Bool} {xs : List Own} (m : FnOk h 0 N mB r1 n1 xs) (hN : N ≤ 100) (hlen : xs.length ≤ 60)
    (hF : h.tr.get Fb = some (.blk (fnCells sMain 0 N mB) ro o s)) :
    Does FF n_run_Counts [.agg ⟨[.slice none 0 0, .slice (some ⟨Fb, 0, none⟩) 1 fc]⟩, .slice none 0 0, .int .i64 100] h (fun v h' => Grows Nob h h' ∧ ∃ (c : SV) (steps : Int), v = .tuple #[c.v, .agg ⟨[.int .i64 (outM N xs r1 n1).1, .int .i64 (outM N xs r1 n1).2, .slice none 0 0, .int .i64 steps]⟩, .agg ⟨[.int .i64 0, .int .i64 0]⟩]) := by
  have w1 : IntKind.i64.wrap (0 + 1) = 1 := wrap_i64 _ (by omega) (by omega)
  have w1' : IntKind.i64.wrap 1 = 1 := wrap_i64 _ (by omega) (by omega)
  have r3 : roomy 1 = true := rfl
  have r4 : roomy 24 = true := rfl
  have r5 : roomy 8 = true := rfl
  have oF := ok.old hF
  obtain ⟨mb, mro, mo, ms, ma, ml, hmb⟩ := blk_get m.one
  have hF' : h.tr.get Fb = some (.blk [.string sMain, .int .i64 0, .int .i64 N, .slice (some ⟨mb, 0, none⟩) 1 mB.c] ro o s) := by rw [hF]; simp [fnCells, ma, ml]
  refine Does.of c_run_Counts ?_
  unfold b_run_Counts
  simp [Nat.add_assoc]
  refine OpsR.cut (fun h1 => Grows Nob h h1 ∧ h1.tr.get h.next = some (.blk [.slice none 0 0, .slice (some ⟨Fb, 0, none⟩) 1 fc] false 0 0) ∧ h1.tr.get (h.next + 1) = some (.blk [.int .i64 0, .int .i64 0, .slice none 0 0, .int .i64 0] false 0 0) ∧ h1.tr.get (h.next + 2) = some (.blk [.int .i64 0, .int .i64 0] false 0 0)) ?_ ?_
  · exact ⟨(((Grows.refl ok).new _ _).new _ _).new _ _, by simp [Nat.add_assoc], by simp [Nat.add_assoc], by simp [Nat.add_assoc]⟩
  rintro h1 ⟨g1, hU1, hO1, hE1⟩
  refine OpsR.call (by simpa using check_one g1.ok (hw.grow ok g1) (gl := ⟨none, 0, 0⟩) rfl (m.grow ok g1) hN (fc := fc) (g1.get ok hF (fun h => h))) ?_
  rintro _ h2 ⟨rfl, g2⟩
  have gg2 := g1.trans g2
  have hU2 := g2.get g1.ok hU1 (fun h => h)
  have oU2 := gg2.ok.old hU2
  simp [hU2, oU2]
  refine OpsR.cut (fun h3 => Grows Nob h2 h3) ?_ ?_
  · repeat (first | exact .refl gg2.ok | apply Grows.new | refine Grows.put ?_ (by simp) (by simp))
  intro h3 g3
  have gg3 := gg2.trans g3
  have t3 := g2.trans g3
  have hU3 := t3.get g1.ok hU1 (fun h => h)
  refine OpsR.call (by simpa using within_does h3 100 0 100000) ?_
  rintro _ h3' ⟨rfl, e3⟩
  rw [e3]
  have oU3 := gg3.ok.old hU3
  simp [hU3, oU3]
  -- the walker
  refine Runs.cut (fun h4 => Grows Nob h3 h4 ∧ h4.tr.get h3.next = some (.blk (wkCells ⟨some ⟨Fb, 0, none⟩, 1, fc⟩ ⟨none, 0, 0⟩ 0 0 0 ⟨none, 0, 0⟩ ⟨none, 0, 0⟩) false 0 0)) ?_ ?_
  · exact ⟨(Grows.refl gg3.ok).new _ _, by simp [wkCells]⟩
  rintro h4 ⟨g4, hW4⟩
  have gg4 := gg3.trans g4
  have hU4 := g4.get gg3.ok hU3 (fun h => h)
  have hF4 := gg4.get ok hF' (fun h => h)
  have oF4 := gg4.ok.old hF4
  have oW4 := gg4.ok.old hW4
  rw [runs_loop]
  unfold r_run_Counts_2
  simp [hU4]
  rw [runs_loop]
  unfold r_run_Counts_1
  have oU4 := gg4.ok.old hU4
  simp [hF4, oF4, hU4, oU4]
  refine OpsR.cut (fun h5 => Grows Nob h4 h5 ∧ ∃ s, h5.tr.get h4.next = some (.blk [.string sMain, .int .i64 0, .int .i64 N, .slice (some ⟨mb, 0, none⟩) 1 mB.c] false 0 s)) ?_ ?_
  · refine ⟨?_, h4.clock, by simp⟩
    repeat (first | exact .refl gg4.ok | apply Grows.new | refine Grows.put ?_ (by simp) (by simp))
  rintro h5 ⟨g5, s5, hM5⟩
  have gg5 := gg4.trans g5
  have hU5 := g5.get gg4.ok hU4 (fun h => h)
  refine OpsR.call (by simpa using cahead_one gg5.ok (hw.grow ok gg5) (gl := ⟨none, 0, 0⟩) rfl (m.grow ok gg5) hN (fc := fc) (gg5.get ok hF (fun h => h))) ?_
  rintro _ h6 ⟨g6, ab, rfl, hab, s6, hA6⟩
  have gg6 := gg5.trans g6
  have t6 := g5.trans g6
  have hW6 := t6.get gg4.ok hW4 (fun h => h)
  have hM6 := g6.get gg5.ok hM5 (fun h => h)
  have hW6' : h6.tr.get h3.next = some (.blk [.slice none 0 0, .slice (some ⟨Fb, 0, none⟩) 1 fc, .slice none 0 0, .slice none 0 0, .slice none 0 0, .int .i64 0, .int .i64 0, .slice none 0 0, .int .i64 0, .slice none 0 0, .slice none 0 0] false 0 0) := hW6
  have oW6 := gg6.ok.old hW6
  have oM6 := gg6.ok.old hM6
  have lt4 : h3.next < h4.next := oW4
  have nMW : ¬ h4.next = h3.next := by omega
  simp [hW6', hM6, oW6, oM6, nMW, appendF, news, appendV, r3, r4, r5, w1, w1', repl, Nat.add_assoc]
  refine Runs.cut (fun h7 => Grows Nob h h7 ∧ Grows (· = h3.next) h6 h7 ∧ (∃ s, h7.tr.get h3.next = some (.blk (wkCells ⟨some ⟨Fb, 0, none⟩, 1, fc⟩ ⟨some ⟨h6.next + 2, 0, none⟩, 1, 1⟩ 0 0 0 ⟨none, 0, 0⟩ ⟨some ⟨h6.next + 5, 0, none⟩, 1, 1⟩) false 0 s)) ∧
      (∃ o s, h7.tr.get (h6.next + 5) = some (.blk [.slice (some ⟨h6.next + 3, 0, none⟩) 1 1] false o s)) ∧ ∃ o s, h7.tr.get (h6.next + 3) = some (.blk [.int .i64 0] false o s)) ?_ ?_
  · have key : ∀ H : Heap, Grows (· = h3.next) h6 H → Grows Nob h H ∧ Grows (· = h3.next) h6 H := fun H g => ⟨gg6.trans' g (fun _ _ h => h) (by rintro x hx rfl; have := gg3.next; omega), g⟩
    have e1 : ¬ h6.next = h3.next := by have := oW6.lt; omega
    have e2 : ∀ k, ¬ h6.next + k = h3.next := by intro k; have := oW6.lt; omega
    rw [← and_assoc]
    refine ⟨key _ ?_, ⟨h6.clock + 1 + 1 + 1, ?_⟩, ⟨1, 0, ?_⟩, ⟨0, 0, ?_⟩⟩
    · refine Grows.put (Grows.new (Grows.new (Grows.new (Grows.tick (Grows.put (Grows.new (Grows.new (Grows.put (Grows.new (Grows.refl gg6.ok) _ _) ?_ ?_) _ _) _ _) ?_ ?_)) _ _) _ _) _ _) ?_ ?_
      · exact ⟨0, by simp⟩
      · left; omega
      · exact ⟨0, by simp [oW6, hW6', Nat.add_assoc]⟩
      · right; rfl
      · exact ⟨h6.clock + 1, by simp [oW6, hW6', Nat.add_assoc]⟩
      · right; rfl
    · simp [wkCells]
    · simp [e1, e2, Nat.add_assoc]
    · simp [e1, e2, Nat.add_assoc]
  rintro h7 ⟨g7, gw7, ⟨s7, hW7⟩, ⟨o8, s8, hCB⟩, o9, s9, hC1⟩
  have hU7 := gw7.get gg6.ok (t6.get gg4.ok hU4 (fun h => h)) (by have := oU3.lt; omega)
  rw [runs_loop]
  try unfold r_run_Counts_1
  simp [hU7]
  have hF7 := g7.get ok hF (fun h => h)
  have hF7' := g7.get ok hF' (fun h => h)
  have isM : ∀ hh, HOk hh → Does FF n_run_Counts_1 [.agg ⟨[.string sMain, .int .i64 0, .int .i64 N, mB.v]⟩] hh (fun v h' => v = .bool true ∧ Grows Nob hh h') := by
    intro hh okh
    refine Does.of c_run_Counts_1 ?_
    unfold b_run_Counts_1
    simp
    exact ⟨rfl, grow_newBlk okh _ _⟩
  refine OpsR.call (by simpa using index_main g7.ok (k := n_run_Counts_1) (a1 := 0) (a2 := N) (s1 := mB) (rest := []) (c := fc) (by simpa [fnCells] using hF7) (isM h7 g7.ok)) ?_
  rintro _ h8 ⟨rfl, g8⟩
  have gg8 := g7.trans g8
  have nW5 : h3.next ≠ h6.next + 5 := by have := oW6.lt; omega
  have nW3 : h3.next ≠ h6.next + 3 := by have := oW6.lt; omega
  simp
  refine OpsR.call (enter_does gg8.ok (by omega) (g8.get g7.ok hW7 (fun h => h)) (g8.get g7.ok hF7 (fun h => h)) (g8.get g7.ok hCB (fun h => h)) (g8.get g7.ok hC1 (fun h => h)) nW5 nW3) ?_
  rintro _ h9 ⟨g9, FR, RG, hFR, hRG, k9⟩
  simp
  have lw : h.next ≤ h3.next := gg3.next
  have l8 : h6.next + 5 < h8.next := by
    have := g7.ok.old hCB
    have := this.lt
    have := g8.next
    omega
  have l6 : h.next ≤ h6.next := gg6.next
  have gg9 : Grows Nob h h9 := gg8.trans' g9 (fun _ _ h => h) (by rintro x hx (rfl | rfl) <;> omega)
  have lf : h.next ≤ FR := by have := gg8.next; omega
  have lr : h.next ≤ RG := by have := gg8.next; omega
  have lt2 : h.next + 2 < h3.next := by have := g1.ok.old hE1; have := this.lt; have := t3.next; omega
  have lt8 : h3.next < h8.next := by have := l8; have := oW6.lt; omega
  have hO3 := t3.get g1.ok hO1 (fun h => h)
  have hE3 := t3.get g1.ok hE1 (fun h => h)
  have g38 : Grows Nob h3 h8 := ((g4.trans t6).trans' gw7 (fun _ _ h => h) (by rintro x hx rfl; omega)).trans g8
  have g39 : Grows Nob h3 h9 := g38.trans' g9 (fun _ _ h => h) (by have := oW6.lt; rintro x hx (rfl | rfl) <;> omega)
  have lf3 : h3.next ≤ FR := by omega
  have lr3 : h3.next ≤ RG := by omega
  have hF3 := gg3.get ok hF (fun h => h)
  refine Runs.loop (fun mm e hh => ∃ (i : Nat) (regs : List Int), mm = xs.length - i ∧ i ≤ xs.length ∧ regs.length = N ∧ goM r1 n1 (xs.drop i) i regs = outM N xs r1 n1 ∧ Env.get e 10 = .pointer (some ⟨h3.next, 0, none⟩) ∧ Env.get e 2 = .int .i64 100 ∧ Env.get e 7 = .pointer (some ⟨h.next + 1, 0, none⟩) ∧ Env.get e 8 = .pointer (some ⟨h.next + 2, 0, none⟩) ∧ Grows Nob h3 hh ∧
      Wk hh h3.next FR RG ⟨some ⟨Fb, 0, none⟩, 1, fc⟩ ⟨some ⟨h6.next + 2, 0, none⟩, 1, 1⟩ ⟨some ⟨h6.next + 5, 0, none⟩, 1, 1⟩ 1 0 0 i i regs) ?_ (n := xs.length)
    ⟨0, List.replicate N 0, rfl, by omega, by simp, rfl, by simp, by simp, by simp, by simp, g39, k9⟩
  rintro mm e hh ⟨i, regs, rfl, hi, hregs, hgo, f10, f2, f7, f8, gh, kh⟩
  unfold r_run_Counts_0
  obtain ⟨s10, hWh⟩ := kh.wk
  have hWh' : hh.tr.get h3.next = some (.blk [.slice none 0 0, .slice (some ⟨Fb, 0, none⟩) 1 fc, .slice (some ⟨h6.next + 2, 0, none⟩) 1 1, .slice none 0 0, .slice none 0 0, .int .i64 0, .int .i64 0, .slice none 0 0, .int .i64 i, .slice (some ⟨FR, 0, none⟩) 1 1, .slice (some ⟨h6.next + 5, 0, none⟩) 1 1] false 0 s10) := hWh
  have b100 : ((i : Int) == 100) = false := beq_no (by omega)
  simp [f10, f2, f7, f8, hWh', b100]
  refine OpsR.call (by simpa using step_does ⟨gg3.ok, gh, ⟨m.grow ok gg3⟩, ⟨_, _, _, hF3⟩, Nat.le_refl _, lf3, lr3⟩ kh hregs ⟨by omega, by omega⟩ (by omega) hi) ?_
  rintro v h10 ⟨g10, hpost⟩
  have hO10 := g10.get gg3.ok hO3 (fun h => h)
  have hE10 := g10.get gg3.ok hE3 (fun h => h)
  have g10' := gg3.trans g10
  have nOE : ¬ h.next + 1 = h.next + 2 := by omega
  have nWO : ¬ h3.next = h.next + 1 := by omega
  have hcase : (v = .bool true ∧ ∃ x, xs[i]? = some x ∧ (twoM x.op (valOf regs x.ar x.an) (valOf regs x.br x.bn)).2 = true ∧ Wk h10 h3.next FR RG ⟨some ⟨Fb, 0, none⟩, 1, fc⟩ ⟨some ⟨h6.next + 2, 0, none⟩, 1, 1⟩ ⟨some ⟨h6.next + 5, 0, none⟩, 1, 1⟩ 1 0 0 ((i : Int) + 1) (i + 1 : Nat) (regs.set i (twoM x.op (valOf regs x.ar x.an) (valOf regs x.br x.bn)).1)) ∨
      (v = .bool false ∧ ∃ (st val steps : Int) (fr : SV) (s11 : Nat), (st, val) = outM N xs r1 n1 ∧ h10.tr.get h3.next = some (.blk (wkCells ⟨some ⟨Fb, 0, none⟩, 1, fc⟩ ⟨some ⟨h6.next + 2, 0, none⟩, 1, 1⟩ st val steps fr ⟨some ⟨h6.next + 5, 0, none⟩, 1, 1⟩) false 0 s11)) := by
    cases hx : xs[i]? with
    | none =>
      rw [hx] at hpost
      obtain ⟨rfl, s, hW⟩ := hpost
      rw [goM_none (List.getElem?_eq_none_iff.mp hx)] at hgo
      exact .inr ⟨rfl, _, _, _, _, _, hgo, hW⟩
    | some x =>
      rw [hx] at hpost
      rw [goM_some hx] at hgo
      dsimp only at hpost
      split at hpost
      · rename_i ht
        exact .inl ⟨hpost.1, x, rfl, ht, hpost.2⟩
      · rename_i ht
        rw [if_neg ht] at hgo
        obtain ⟨s, hW⟩ := hpost.2.wk
        exact .inr ⟨hpost.1, _, _, _, _, _, hgo, hW⟩
  rcases hcase with ⟨rfl, x, hx, ht, k10⟩ | ⟨rfl, st, val, steps, fr, s11, hout, hW10⟩
  · have hil := (List.getElem?_eq_some_iff.mp hx).1
    rw [goM_some hx, if_pos ht] at hgo
    simp [f10, f2, f7, f8]
    exact ⟨xs.length - (i + 1), by omega, i + 1, rfl, by omega, _, by simpa using hregs, hgo, g10, by simpa using k10⟩
  · have hW10' : h10.tr.get h3.next = some (.blk [.slice none 0 0, .slice (some ⟨Fb, 0, none⟩) 1 fc, .slice (some ⟨h6.next + 2, 0, none⟩) 1 1, .slice none 0 0, .slice none 0 0, .int .i64 st, .int .i64 val, .slice none 0 0, .int .i64 steps, .slice fr.a fr.l fr.c, .slice (some ⟨h6.next + 5, 0, none⟩) 1 1] false 0 s11) := hW10
    rw [← hout]
    have nEO : ¬ h.next + 2 = h.next + 1 := by omega
    simp [f10, f2, f7, f8, hW10', hO10, hE10, nOE, nEO, nWO, out_exit_other]
    refine ⟨?_, ⟨some ⟨h6.next + 5, 0, none⟩, 1, 1⟩, rfl, rfl, rfl⟩
    refine Grows.put (Grows.put g10'.tick ⟨0, by simpa using hO10⟩ (.inl (by omega))) ⟨0, ?_⟩ (.inl (by omega))
    simp [nEO, hE10]

theorem do_does {h : Heap} (ok : HOk h) (hw : Ways h) {mB : SV} {Fb fc o s N : Nat} {ro : Bool} {n1 : Int} {r1 : Bool} {xs : List Own} (m : FnOk h 0 N mB r1 n1 xs) (hN : N ≤ 100) (hlen : xs.length ≤ 60)
    (hF : h.tr.get Fb = some (.blk (fnCells sMain 0 N mB) ro o s)) :
    Does FF n_run_Do [.agg ⟨[.slice none 0 0, .slice (some ⟨Fb, 0, none⟩) 1 fc]⟩, .slice none 0 0, .int .i64 100] h (fun v h' => Grows Nob h h' ∧ ∃ (steps : Int), v = .tuple #[.agg ⟨[.int .i64 (outM N xs r1 n1).1, .int .i64 (outM N xs r1 n1).2, .slice none 0 0, .int .i64 steps]⟩, .agg ⟨[.int .i64 0, .int .i64 0]⟩]) := by
  refine Does.of c_run_Do ?_
  unfold b_run_Do
  simp [Nat.add_assoc]
  refine OpsR.cut (fun h1 => Grows Nob h h1 ∧ h1.tr.get (h.next + 1) = some (.blk [.int .i64 0, .int .i64 0, .slice none 0 0, .int .i64 0] false 0 0) ∧ h1.tr.get (h.next + 2) = some (.blk [.int .i64 0, .int .i64 0] false 0 0)) ?_ ?_
  · exact ⟨(((Grows.refl ok).new _ _).new _ _).new _ _, by simp [Nat.add_assoc], by simp [Nat.add_assoc]⟩
  rintro h1 ⟨g1, hO1, hE1⟩
  refine OpsR.call (V := fun v h' => Grows Nob h1 h' ∧ ∃ (c : SV) (steps : Int), v = .tuple #[c.v, .agg ⟨[.int .i64 (outM N xs r1 n1).1, .int .i64 (outM N xs r1 n1).2, .slice none 0 0, .int .i64 steps]⟩, .agg ⟨[.int .i64 0, .int .i64 0]⟩]) (by simpa using counts_does g1.ok (hw.grow ok g1) (m.grow ok g1) hN hlen (fc := fc) (g1.get ok hF (fun h => h))) ?_
  rintro _ h2 ⟨g2, c, steps, rfl⟩
  have gg2 := g1.trans g2
  have hO2 := g2.get g1.ok hO1 (fun h => h)
  have hE2 := g2.get g1.ok hE1 (fun h => h)
  have oO2 := gg2.ok.old hO2
  have oE2 := gg2.ok.old hE2
  generalize outM N xs r1 n1 = t
  have nEO : ¬ h.next + 2 = h.next + 1 := by omega
  have lx : h.next + 2 < h2.next := oE2
  have nx1 : ¬ h.next = h2.next := by omega
  have nx2 : ¬ h.next + 1 = h2.next := by omega
  simp [hO2, hE2, oO2, oE2, nEO, nx1, nx2, Ne.symm nx1, Nat.add_assoc]
  refine Grows.put (Grows.put (Grows.tick (Grows.put (Grows.put ((gg2.new _ _).new _ _) ⟨0, ?_⟩ (.inl (by omega))) ⟨0, ?_⟩ (.inl (by omega)))) ⟨0, ?_⟩ (.inl (by omega))) ⟨0, ?_⟩ (.inl (by omega))
  · simp
  · simp
  · simp [hO2, oO2, nx1]
  · simp [hE2, oE2, nEO, nx1, nx2]
end Go.Proofs.YtehbhfobjechpaaGreatDoor
