/- Contracts: sparse.state's of, join, set, makes. -/
import Derived.Test.YtehbhfobjechpaaGreatDoorKF
import Derived.Test.YtehbhfobjechpaaGreatDoorKG
namespace Go.Proofs.YtehbhfobjechpaaGreatDoor
open Go.AI

/-- the cells of a state -/
def stCells (N : Int) (mB ah fa : SV) (mp : Value) (more : Bool) : List Value := [.string sMain, .int .i64 0, .int .i64 N, mB.v, ah.v, fa.v, mp, .bool more]

/-- A state of main. -/
structure St (h : Heap) (p FB N : Nat) (mB ah : SV) (mp : Nat) (more : Bool) (facts : List (Int × Int)) : Prop where
  st : ∃ s, h.tr.get p = some (.blk (stCells N mB ah ⟨some ⟨FB, 0, none⟩, N, N⟩ (.map (some mp)) more) false 0 s)
  fa : ∃ s, h.tr.get FB = some (.blk (encW.flat facts) false 0 s)
  ln : facts.length = N
  n1 : p ≠ FB

theorem St.grow {S : Nat → Prop} {h h' : Heap} {p FB N : Nat} {mB ah : SV} {mp : Nat} {more : Bool} {facts : List (Int × Int)} (k : St h p FB N mB ah mp more facts) (ok : HOk h) (g : Grows S h h') (hS : ¬ S p ∧ ¬ S FB) : St h' p FB N mB ah mp more facts := by
  obtain ⟨⟨s1, a⟩, ⟨s2, b⟩, c, d⟩ := k
  exact ⟨⟨s1, g.get ok a hS.1⟩, ⟨s2, g.get ok b hS.2⟩, c, d⟩

/-- what is known of a value -/
def ofM (F : List (Int × Int)) (r : Bool) (n : Int) : Int × Int := if r then (F[n.toNat]?).getD (0, 0) else (1, n)
def joinM (a b : Int × Int) : Int × Int := if a.1 = 0 ∨ a = b then b else if b.1 = 0 then a else (2, 0)
/-- what an instruction makes -/
def makesM (F : List (Int × Int)) (x : Own) : Int × Int :=
  if (ofM F x.ar x.an).1 = 2 ∨ (ofM F x.br x.bn).1 = 2 then (2, 0) else
  if (ofM F x.ar x.an).1 = 0 ∨ (ofM F x.br x.bn).1 = 0 then (0, 0) else
  if (twoM x.op (ofM F x.ar x.an).2 (ofM F x.br x.bn).2).2 then (1, (twoM x.op (ofM F x.ar x.an).2 (ofM F x.br x.bn).2).1) else (2, 0)

theorem join_does {h : Heap} (ok : HOk h) (a b : Int × Int) : Does FF n_sparse_join [.agg ⟨[.int .i64 a.1, .int .i64 a.2]⟩, .agg ⟨[.int .i64 b.1, .int .i64 b.2]⟩] h (fun v h' => v = .agg ⟨[.int .i64 (joinM a b).1, .int .i64 (joinM a b).2]⟩ ∧ Grows Nob h h') := by
  obtain ⟨a1, a2⟩ := a
  obtain ⟨b1, b2⟩ := b
  refine Does.of c_sparse_join ?_
  unfold b_sparse_join
  unfold joinM
  have G : ∀ cs vs : List Value, Grows Nob h (put (newBlk (newBlk (newBlk h [.int .i64 a1, .int .i64 a2] 0) [.int .i64 b1, .int .i64 b2] 0) cs 0) (h.next + 2) 0 cs vs 0) := fun cs vs =>
    Grows.put ((((Grows.refl ok).new _ _).new _ _).new _ _) ⟨0, by simp [Nat.add_assoc]⟩ (.inl (by omega))
  by_cases h1 : a1 = 0
  · subst h1
    simp [Nat.add_assoc]
    exact G _ _
  · have e1 := beq_no h1
    by_cases h2 : a1 = b1 ∧ a2 = b2
    · obtain ⟨rfl, rfl⟩ := h2
      simp [e1, h1, Nat.add_assoc]
      exact G _ _
    · have h2' : ¬ ((a1, a2) = (b1, b2)) := by simpa using h2
      have e2 : (decide (a1 = b1) && decide (a2 = b2)) = false := by simpa using h2
      by_cases h3 : b1 = 0
      · subst h3
        simp [e1, h1, Nat.add_assoc]
        exact G _ _
      · have e3 := beq_no h3
        have e4 : ((a1 == b1) && (a2 == b2)) = false := by simpa using h2
        simp [e1, h1, h3, e3, e4, h2, Nat.add_assoc]
        exact G _ _

section
variable {h : Heap} {p FB N : Nat} {mB ah : SV} {mp : Nat} {more : Bool} {F : List (Int × Int)}

theorem of_does (ok : HOk h) (k : St h p FB N mB ah mp more F) {r : Bool} {n : Int} (hr : r = true → ∃ i : Nat, n = i ∧ i < N) :
    Does FF n_sparse_state_of [.pointer (some ⟨p, 0, none⟩), .agg ⟨[.bool r, .int .i64 n]⟩] h (fun v h' => v = .agg ⟨[.int .i64 (ofM F r n).1, .int .i64 (ofM F r n).2]⟩ ∧ Grows Nob h h') := by
  obtain ⟨s1, hp⟩ := k.st
  obtain ⟨s2, hf⟩ := k.fa
  have hp' : h.tr.get p = some (.blk [.string sMain, .int .i64 0, .int .i64 N, .slice mB.a mB.l mB.c, .slice ah.a ah.l ah.c, .slice (some ⟨FB, 0, none⟩) N N, .map (some mp), .bool more] false 0 s1) := hp
  have op := ok.old hp
  have of := ok.old hf
  refine Does.of c_sparse_state_of ?_
  unfold b_sparse_state_of
  cases r with
  | false =>
    simp [ofM]
    repeat (first | exact .refl ok | apply Grows.new | refine Grows.put ?_ (by simp) (by simp))
  | true =>
    obtain ⟨i, rfl, hi⟩ := hr rfl
    obtain ⟨x, hri⟩ : ∃ x, F[i]? = some x := ⟨_, List.getElem?_eq_getElem (by rw [k.ln]; exact hi)⟩
    have hrd := read_w hf hri 0 2 (by omega)
    simp only [Nat.add_zero, List.drop_zero] at hrd
    simp [readAt_get hp', op, of, hi, readAt_newBlk, readAt_newBlk_same, readAt_put_same, readAt_put, readAt_tick, hrd, -readAt_def, ofM, hri]
    refine Grows.put (((Grows.refl ok).new _ _).new _ _).tick ⟨0, ?_⟩ (.inl ?_)
    · simp
    · omega

theorem set_same {α : Type} {l : List α} {i : Nat} {x : α} (h : l[i]? = some x) : l.set i x = l := by
  apply List.ext_getElem?
  intro k
  rw [List.getElem?_set]
  split
  · rename_i e
    subst e
    split
    · exact h.symm
    · rw [List.getElem?_eq_none (by omega)]
  · rfl

theorem sset_does (ok : HOk h) (k : St h p FB N mB ah mp more F) {i : Nat} (hi : i < N) (x : Int × Int) {y : Int × Int} (hy : F[i]? = some y) :
    Does FF n_sparse_state_set [.pointer (some ⟨p, 0, none⟩), .int .i64 i, .agg ⟨[.int .i64 x.1, .int .i64 x.2]⟩] h (fun _ h' => Grows (fun b => b = p ∨ b = FB) h h' ∧ St h' p FB N mB ah mp (more || decide (joinM y x ≠ y)) (F.set i (joinM y x))) := by
  obtain ⟨s1, hp⟩ := k.st
  obtain ⟨s2, hf⟩ := k.fa
  have hp' : h.tr.get p = some (.blk [.string sMain, .int .i64 0, .int .i64 N, .slice mB.a mB.l mB.c, .slice ah.a ah.l ah.c, .slice (some ⟨FB, 0, none⟩) N N, .map (some mp), .bool more] false 0 s1) := hp
  have op := ok.old hp
  have of := ok.old hf
  have hrd := read_w hf hy 0 2 (by omega)
  simp only [Nat.add_zero, List.drop_zero] at hrd
  refine Does.of c_sparse_state_set ?_
  unfold b_sparse_state_set
  simp [readAt_get hp', op, of, hi, readAt_newBlk, readAt_newBlk_same, readAt_tick, hrd, -readAt_def]
  refine DrawR.cut (fun h1 => Grows Nob h h1 ∧ h1.tr.get h.next = some (.blk [.int .i64 x.1, .int .i64 x.2] false 0 0)) ⟨((Grows.refl ok).new _ _).tick, by simp⟩ ?_
  rintro h1 ⟨g1, hX1⟩
  refine DrawR.call (by simpa using join_does g1.ok y x) ?_
  rintro _ h2 ⟨rfl, g2⟩
  have gg2 := g1.trans g2
  have hX2 := g2.get g1.ok hX1 (fun h => h)
  generalize hj : joinM y x = z
  have hp2 := gg2.get ok hp' (fun h => h)
  have hf2 := gg2.get ok hf (fun h => h)
  have hrd2 := read_w hf2 hy 0 2 (by omega)
  simp only [Nat.add_zero, List.drop_zero] at hrd2
  have hl : (encW.flat F).length = N * 2 := by rw [encW.length_flat, k.ln]; rfl
  have hlen : i * 2 + 2 ≤ N * 2 := by omega
  have g3 : Grows Nob h (tick (put h2 h.next 0 [.int .i64 x.1, .int .i64 x.2] [.int .i64 z.1, .int .i64 z.2] 0)) := (gg2.put ⟨_, hX2⟩ (.inl (Nat.le_refl _))).tick
  by_cases hz : z = y
  · subst hz
    simp [hX2, readAt_get hX2, readAt_put_same, readAt_put, op, of, readAt_get hp2, hrd2, hi, readAt_tick, -readAt_def]
    rw [set_same hy]
    exact ⟨g3.nob, by simpa using k.grow ok g3 ⟨id, id⟩⟩
  · have hz' : ¬ (z.1 = y.1 ∧ z.2 = y.2) := by rintro ⟨a, b⟩; exact hz (Prod.ext a b)
    have hz2 : (z.1 == y.1 && z.2 == y.2) = false := by simpa using hz'
    simp [hX2, readAt_get hX2, readAt_put_same, readAt_put, op, of, readAt_get hp2, hrd2, hi, readAt_tick, -readAt_def, hz2, hz', hz, hp2, hf2, hl, hlen, k.n1]
    have hn1 : ¬ FB = p := Ne.symm k.n1
    have hsp : splice (encW.flat F) (i * 2) [.int .i64 z.1, .int .i64 z.2] = encW.flat (F.set i z) := encW.splice_flat F i z (by rw [k.ln]; exact hi)
    refine ⟨?_, ⟨h2.clock + 1 + 1 + 1 + 1, ?_⟩, ⟨h2.clock + 1 + 1 + 1, ?_⟩, by simp [k.ln], k.n1⟩
    · refine Grows.put (Grows.put g3.nob.tick ⟨s2, ?_⟩ (.inr (.inr rfl))) ⟨s1, ?_⟩ (.inr (.inl rfl))
      · simp [of, hf2]
      · simp [op, hp2, k.n1]
    · simp [stCells]
    · simp [hn1, hsp]

theorem sets_more {F : List (Int × Int)} {i : Nat} {y : Int × Int} (hy : F[i]? = some y) (hi : i < F.length) : True := trivial

theorem makes_does (ok : HOk h) (k : St h p FB N mB ah mp more F) {x : Own} (hop : 1 ≤ x.op ∧ x.op ≤ 17) (ha : x.ar = true → ∃ i : Nat, x.an = i ∧ i < N) (hb : x.br = true → ∃ i : Nat, x.bn = i ∧ i < N) :
    Does FF n_sparse_state_makes [.pointer (some ⟨p, 0, none⟩), .agg ⟨insCells x.op x.dst x.ar x.an x.br x.bn 0 (.slice none 0 0)⟩] h (fun v h' => v = .agg ⟨[.int .i64 (makesM F x).1, .int .i64 (makesM F x).2]⟩ ∧ Grows Nob h h') := by
  refine Does.of c_sparse_state_makes ?_
  unfold b_sparse_state_makes
  simp [insCells]
  refine OpsR.cut (fun h1 => Grows Nob h h1 ∧ h1.tr.get h.next = some (.blk [.int .i64 x.op, .int .i64 x.dst, .bool x.ar, .int .i64 x.an, .bool x.br, .int .i64 x.bn, .int .i64 0, .slice none 0 0] false 0 0) ∧ h1.tr.get (h.next + 1) = some (.blk [.int .i64 0, .int .i64 0] false 0 0)) ⟨((Grows.refl ok).new _ _).new _ _, by simp, by simp⟩ ?_
  rintro h1 ⟨g1, hX1, hR1⟩
  refine OpsR.call (by simpa using within_does h1 x.op 1 17) ?_
  rintro _ h1' ⟨rfl, e1⟩
  rw [e1]
  simp [hop.1, hop.2, hX1]
  refine DrawR.cut (fun h2 => Grows Nob h1 h2 ∧ h2.tr.get h1.next = some (.blk [.int .i64 0, .int .i64 0] false 0 0) ∧ h2.tr.get (h1.next + 1) = some (.blk [.int .i64 0, .int .i64 0] false 0 0)) ⟨(((Grows.refl g1.ok).tick.new _ _).new _ _), by simp, by simp⟩ ?_
  rintro h2 ⟨g2, hA2, hB2⟩
  have gg2 := g1.trans g2
  have hX2 := g2.get g1.ok hX1 (fun h => h)
  refine DrawR.call (by simpa using of_does gg2.ok (k.grow ok gg2 ⟨id, id⟩) ha) ?_
  rintro _ h3 ⟨rfl, g3⟩
  have gg3 := gg2.trans g3
  have hX3 := g3.get gg2.ok hX2 (fun h => h)
  have hA3 := g3.get gg2.ok hA2 (fun h => h)
  have hB3 := g3.get gg2.ok hB2 (fun h => h)
  simp [hX3]
  refine DrawR.call (by simpa using of_does gg3.ok (k.grow ok gg3 ⟨id, id⟩) hb) ?_
  rintro _ h4 ⟨rfl, g4⟩
  have gg4 := gg3.trans g4
  have hX4 := g4.get gg3.ok hX3 (fun h => h)
  have hA4 := g4.get gg3.ok hA3 (fun h => h)
  have hB4 := g4.get gg3.ok hB3 (fun h => h)
  have hR4 := ((g2.trans g3).trans g4).get g1.ok hR1 (fun h => h)
  have hXl : h.next + 1 < h1.next := g1.ok.old hR1
  have nXA : ¬ h.next = h1.next := by omega
  have nXB : ¬ h.next = h1.next + 1 := by omega
  have nRA : ¬ h.next + 1 = h1.next := by omega
  have nRB : ¬ h.next = h1.next := by omega
  have nAB : ¬ h1.next + 1 = h1.next := by omega
  have nBA : ¬ h1.next = h1.next + 1 := by omega
  unfold makesM
  generalize ofM F x.ar x.an = a
  generalize ofM F x.br x.bn = b
  -- what is stored
  have K : ∀ (cs vs : List Value), True := fun _ _ => trivial
  have g5 : Grows Nob h (put (put h4 h1.next 0 [.int .i64 0, .int .i64 0] [.int .i64 a.1, .int .i64 a.2] 0) (h1.next + 1) 0 [.int .i64 0, .int .i64 0] [.int .i64 b.1, .int .i64 b.2] 0) :=
    (gg4.put ⟨_, hA4⟩ (.inl (by omega))).put ⟨0, by simp [hB4]⟩ (.inl (by omega))
  have fin : ∀ vs : List Value, Grows Nob h (put (put (put h4 h1.next 0 [.int .i64 0, .int .i64 0] [.int .i64 a.1, .int .i64 a.2] 0) (h1.next + 1) 0 [.int .i64 0, .int .i64 0] [.int .i64 b.1, .int .i64 b.2] 0) (h.next + 1) 0 [.int .i64 0, .int .i64 0] vs 0) := fun vs =>
    g5.put ⟨0, by simp [hR4, nRA, nRB]⟩ (.inl (by omega))
  by_cases a2 : a.1 = 2
  · simp [hA4, hB4, hX4, hR4, nXA, nXB, nRA, nRB, nAB, nBA, a2]
    rw [← a2]; exact fin _
  have ba2 := beq_no a2
  by_cases b2 : b.1 = 2
  · simp [hA4, hB4, hX4, hR4, nXA, nXB, nRA, nRB, nAB, nBA, a2, ba2, b2]
    rw [← b2]; exact fin _
  have bb2 := beq_no b2
  by_cases a0 : a.1 = 0
  · simp [hA4, hB4, hX4, hR4, nXA, nXB, nRA, nRB, nAB, nBA, a2, ba2, b2, bb2, a0]
    rw [← a0]; exact fin _
  have ba0 := beq_no a0
  by_cases b0 : b.1 = 0
  · simp [hA4, hB4, hX4, hR4, nXA, nXB, nRA, nRB, nAB, nBA, a2, ba2, b2, bb2, a0, ba0, b0]
    rw [← b0]; exact fin _
  have bb0 := beq_no b0
  simp [hA4, hB4, hX4, hR4, nXA, nXB, nRA, nRB, nAB, nBA, a2, ba2, b2, bb2, a0, ba0, b0, bb0]
  refine OpsR.call (by simpa using two_does _ a.2 b.2 hop) ?_
  rintro _ h5 ⟨rfl, e5⟩
  rw [e5]
  generalize twoM x.op a.2 b.2 = t
  obtain ⟨n, yes⟩ := t
  cases yes with
  | false =>
    simp [hA4, hB4, hX4, hR4, nXA, nXB, nRA, nRB, nAB, nBA]
    exact fin _
  | true =>
    simp [hA4, hB4, hX4, hR4, nXA, nXB, nRA, nRB, nAB, nBA]
    exact fin _
end
end Go.Proofs.YtehbhfobjechpaaGreatDoor

/- Contracts: sparse.state's come, step; sparse.solve. -/
namespace Go.Proofs.YtehbhfobjechpaaGreatDoor
open Go.AI

/-- one pass over a list -/
def passM : List Own → Nat → List (Int × Int) → Bool → List (Int × Int) × Bool
  | [], _, F, m => (F, m)
  | x :: xs, j, F, m => passM xs (j + 1) (F.set j (joinM ((F[j]?).getD (0, 0)) (makesM F x))) (m || decide (joinM ((F[j]?).getD (0, 0)) (makesM F x) ≠ (F[j]?).getD (0, 0)))

theorem passM_some {xs : List Own} {j : Nat} {x : Own} {F : List (Int × Int)} {m : Bool} {y : Int × Int} (hx : xs[j]? = some x) (hy : F[j]? = some y) :
    passM (xs.drop j) j F m = passM (xs.drop (j + 1)) (j + 1) (F.set j (joinM y (makesM F x))) (m || decide (joinM y (makesM F x) ≠ y)) := by
  obtain ⟨hl, e⟩ := List.getElem?_eq_some_iff.mp hx
  rw [List.drop_eq_getElem_cons hl, e]
  simp only [passM, hy, Option.getD_some]

theorem length_passM : ∀ (xs : List Own) (j : Nat) (F : List (Int × Int)) (m : Bool), (passM xs j F m).1.length = F.length
  | [], _, _, _ => rfl
  | x :: xs, j, F, m => by rw [passM, length_passM]; simp

theorem come_does {h : Heap} (ok : HOk h) (p : Nat) : Does FF n_sparse_state_come [.pointer (some ⟨p, 0, none⟩), .int .i64 0] h (fun r h' => r = .bool true ∧ Grows Nob h h') := by
  refine Does.of c_sparse_state_come ?_
  unfold b_sparse_state_come
  simp
  exact (((Grows.refl ok).new _ _).new _ _).tick

section
variable {h0 h : Heap} {p FB N : Nat} {mB ah : SV} {mp : Nat} {more : Bool} {F : List (Int × Int)}

/-- a state in the midst of a pass -/
def StP (xs : List Own) (R : List (Int × Int) × Bool) (j : Nat) (h : Heap) (p FB N : Nat) (mB ah : SV) (mp : Nat) : Prop := ∃ (F' : List (Int × Int)) (more' : Bool), passM (xs.drop j) j F' more' = R ∧ St h p FB N mB ah mp more' F'

theorem sstep_does (ok0 : HOk h0) (g : Grows Nob h0 h) {r1 : Bool} {n1 : Int} {xs : List Own} (m : FnOk h0 0 N mB r1 n1 xs) (hN : N < 100000) (lp : h0.next ≤ p) (lF : h0.next ≤ FB) (k : St h p FB N mB ah mp more F) :
    Does FF n_sparse_state_step [.pointer (some ⟨p, 0, none⟩), .int .i64 0] h (fun _ h' => Grows (fun b => b = p ∨ b = FB) h h' ∧ St h' p FB N mB ah mp (passM xs 0 F more).2 (passM xs 0 F more).1) := by
  have ok := g.ok
  have hlenN : xs.length ≤ N := by have := m.cnt; omega
  obtain ⟨b, ro, o, s, ha, hl, hb0⟩ := blk_get m.one
  have hb := g.get ok0 hb0 (fun h => h)
  have hll := m.llen
  have ltb : b < h0.next := ok0.wf _ _ hb0
  replace hb : h.tr.get b = some (.blk [.slice none 0 0, .slice m.list.a xs.length m.list.c, .int .i64 1, .bool r1, .int .i64 n1, .slice none 0 0] ro o s) := by rw [hb, hll, m.hpn, m.htn]
  obtain ⟨s1, hp⟩ := k.st
  have hp' : h.tr.get p = some (.blk [.string sMain, .int .i64 0, .int .i64 N, .slice (some ⟨b, 0, none⟩) 1 mB.c, .slice ah.a ah.l ah.c, .slice (some ⟨FB, 0, none⟩) N N, .map (some mp), .bool more] false 0 s1) := by rw [hp]; simp [stCells, ha, hl]
  have ob := ok.old hb
  refine Does.of c_sparse_state_step ?_
  unfold b_sparse_state_step
  simp [hp', hb]
  refine Runs.cut (fun h1 => Grows Nob h h1 ∧ ∃ s, h1.tr.get h.next = some (.blk [.slice none 0 0, .slice m.list.a xs.length m.list.c, .int .i64 1, .bool r1, .int .i64 n1, .slice none 0 0] false 0 s)) ⟨(Grows.refl ok).var _ _, h.clock, by simp⟩ ?_
  rintro h1 ⟨g1, s2, hV1⟩
  rw [runs_loop]
  unfold r_sparse_state_step_3
  simp [hV1]
  have lV : ¬ h.next = p := by have := (ok.old hp).lt; omega
  have lVF : ¬ h.next = FB := by obtain ⟨s, hf⟩ := k.fa; have := (ok.old hf).lt; omega
  refine Runs.loop (fun mm e hh => ∃ (j : Nat), mm = xs.length - j ∧ j ≤ xs.length ∧ Env.get e 0 = .pointer (some ⟨p, 0, none⟩) ∧ Env.get e 1 = .int .i64 0 ∧ Env.get e 4 = .pointer (some ⟨h.next, 0, none⟩) ∧
      Env.get e 64 = .slice m.list.a xs.length m.list.c ∧ Env.get e 65 = .int .i64 xs.length ∧ Env.get e 66 = .int .i64 j ∧ Grows (fun b => b = p ∨ b = FB) h1 hh ∧ StP xs (passM xs 0 F more) j hh p FB N mB ah mp) ?_ (n := xs.length)
    ⟨0, rfl, by omega, by simp, by simp, by simp, by simp, by simp, by simp, (Grows.refl g1.ok), F, more, rfl, k.grow ok g1 ⟨id, id⟩⟩
  rintro mm e hh ⟨j, rfl, hj, f0, f1, f4, f64, f65, f66, gh, F', more', hpass, kh⟩
  unfold r_sparse_state_step_1
  have gh0 : Grows Nob h0 hh := (g.trans g1).trans' gh (fun _ _ h => h) (by rintro x hx (rfl | rfl) <;> omega)
  have gh1 : Grows (fun b => b = p ∨ b = FB) h hh := g1.nob.trans gh
  by_cases hjl : j < xs.length
  · have hx : xs[j]? = some xs[j] := List.getElem?_eq_getElem hjl
    generalize xs[j] = x at hx
    have q := m.ord j x hx
    have hdst : x.dst = (j : Int) := q.dst
    have hs2 : SliceOf encOwn hh (.slice m.list.a xs.length m.list.c) xs := by have := m.sl.nob ok0 gh0; rw [SV.v_def, m.llen] at this; exact this
    obtain ⟨b', off, cap', hv', _, ⟨csb, rob, obb, sbb, hbb⟩, hrd⟩ := hs2.read hx
    injection hv' with hv1 hv2 hv3
    have hr0 := hrd 0 8 (by simp)
    simp only [encOwn_sz, Nat.add_zero] at hr0
    have oB := gh0.ok.old hbb
    obtain ⟨j', hj'⟩ : ∃ j', j' = j + 1 := ⟨_, rfl⟩
    have wj : IntKind.i64.wrap ((j : Int) + 1) = (j' : Int) := by rw [wrap_i64 _ (by omega) (by omega)]; omega
    have h0j : (0 : Int) ≤ j := by omega
    have h0j' : ¬ (j : Int) < 0 := by omega
    simp [f0, f1, f4, f64, f65, f66, hjl, hv1, hr0, hdst, h0j, h0j', readAt_put, readAt_put_same, readAt_newBlk, readAt_tick, oB, -readAt_def]
    refine DrawR.cut (fun h2 => Grows Nob hh h2 ∧ h2.tr.get hh.next = some (.blk [.int .i64 x.op, .int .i64 j, .bool x.ar, .int .i64 x.an, .bool x.br, .int .i64 x.bn, .int .i64 0, .slice none 0 0] false 0 hh.clock)) ⟨((Grows.refl gh0.ok).var _ _).tick, by simp⟩ ?_
    rintro h2 ⟨g2, hX2⟩
    refine DrawR.call (V := fun v h' => v = .agg ⟨[.int .i64 (makesM F' x).1, .int .i64 (makesM F' x).2]⟩ ∧ Grows Nob h2 h') (by have := makes_does g2.ok (kh.grow gh0.ok g2 ⟨id, id⟩) (x := x) q.op.le (fun e => by obtain ⟨i, h1, h2⟩ := q.a e; exact ⟨i, h1, by omega⟩) (fun e => by obtain ⟨i, h1, h2⟩ := q.b e; exact ⟨i, h1, by omega⟩); rw [hdst] at this; simpa [insCells] using this) ?_
    rintro _ h3 ⟨rfl, g3⟩
    have g23 := g2.trans g3
    have hX3 := g3.get g2.ok hX2 (fun h => h)
    obtain ⟨y, hy⟩ : ∃ y, F'[j]? = some y := ⟨_, List.getElem?_eq_getElem (by rw [kh.ln]; omega)⟩
    simp [hX3]
    refine DrawR.call (V := fun _ h' => Grows (fun b => b = p ∨ b = FB) h3 h' ∧ St h' p FB N mB ah mp (more' || decide (joinM y (makesM F' x) ≠ y)) (F'.set j (joinM y (makesM F' x)))) (by simpa using sset_does g23.ok (kh.grow gh0.ok g23 ⟨id, id⟩) (i := j) (by omega) (makesM F' x) hy) ?_
    rintro _ h4 ⟨g4, k4⟩
    simp [f0, f1, f4, f64, f65, f66, wj]
    refine ⟨xs.length - j', by omega, j', rfl, by omega, hv1, rfl, (gh.trans g23.nob).trans g4, F'.set j (joinM y (makesM F' x)), more' || decide (joinM y (makesM F' x) ≠ y), ?_, k4⟩
    rw [← hpass, passM_some hx hy, hj']
  · have : j = xs.length := by omega
    subst this
    have hV := gh.get g1.ok hV1 (fun e => e.elim lV lVF)
    have hpe : passM xs 0 F more = (F', more') := by rw [← hpass, List.drop_length]; rfl
    rw [hpe]
    simp [f0, f1, f4, f64, f65, f66, hV]
    refine OpsR.call (by simpa using of_does gh0.ok kh (fun e => by obtain ⟨i, h1, h2⟩ := m.on e; exact ⟨i, h1, by omega⟩)) ?_
    rintro _ h5 ⟨rfl, g5⟩
    have hV5 := g5.get gh0.ok hV (fun h => h)
    have oV5 := g5.ok.old hV5
    simp [f4, hV5, oV5]
    rw [runs_loop]
    unfold r_sparse_state_step_0
    simp
    have gz := (gh1.trans g5.nob).trans (((Grows.refl g5.ok).var [.int .i64 0, .int .i64 0] [.int .i64 (ofM F' r1 n1).1, .int .i64 (ofM F' r1 n1).2]).nob (S := fun b => b = p ∨ b = FB))
    exact ⟨gz, (kh.grow gh0.ok g5 ⟨id, id⟩).grow g5.ok (S := Nob) ((Grows.refl g5.ok).var _ _) ⟨id, id⟩⟩

/-- facts that come to no more -/
def Fix (xs : List Own) (F : List (Int × Int)) : Prop := ∀ (j : Nat) (x : Own), xs[j]? = some x → F[j]? = some (makesM F x)

theorem ofM_lt {F : List (Int × Int)} {r : Bool} {n : Int} {j : Nat} {z : Int × Int} (h : r = true → ∃ k : Nat, n = k ∧ k < j) : ofM (F.set j z) r n = ofM F r n := by
  cases r with
  | false => rfl
  | true =>
    obtain ⟨k, rfl, hk⟩ := h rfl
    unfold ofM
    simp only [if_true, Int.toNat_natCast]
    rw [List.getElem?_set, if_neg (by omega)]

theorem makesM_lt {F : List (Int × Int)} {x : Own} {i j : Nat} {z : Int × Int} (q : InOrd 0 i x) (hij : i ≤ j) : makesM (F.set j z) x = makesM F x := by
  unfold makesM
  rw [ofM_lt (fun e => by obtain ⟨k, h1, h2⟩ := q.a e; exact ⟨k, h1, by omega⟩), ofM_lt (fun e => by obtain ⟨k, h1, h2⟩ := q.b e; exact ⟨k, h1, by omega⟩)]

/-- the first pass: what has been passed is settled, what has not is nothing -/
theorem passM_first {xs : List Own} (q : ∀ j x, xs[j]? = some x → InOrd 0 j x) : ∀ (k j : Nat) (F : List (Int × Int)) (m : Bool), xs.length = j + k → xs.length ≤ F.length → (∀ i x, i < j → xs[i]? = some x → F[i]? = some (makesM F x)) → (∀ i, j ≤ i → i < F.length → F[i]? = some (0, 0)) →
    Fix xs (passM (xs.drop j) j F m).1
  | 0, j, F, m, hk, hl, h1, h2 => by
    rw [List.drop_eq_nil_of_le (by omega)]
    intro i x hx
    exact h1 i x (by have := (List.getElem?_eq_some_iff.mp hx).1; omega) hx
  | k + 1, j, F, m, hk, hl, h1, h2 => by
    have hx : xs[j]? = some xs[j] := List.getElem?_eq_getElem (by omega)
    generalize xs[j] = x at hx
    have hy := h2 j (Nat.le_refl _) (by omega)
    rw [passM_some hx hy]
    have hj0 : joinM (0, 0) (makesM F x) = makesM F x := by unfold joinM; simp
    rw [hj0]
    refine passM_first q k (j + 1) _ _ (by omega) (by simpa using hl) ?_ ?_
    · intro i z hi hz
      rw [makesM_lt (q i z hz) (by omega), List.getElem?_set]
      by_cases e : j = i
      · subst e
        rw [hx] at hz
        cases hz
        rw [if_pos rfl, if_pos (by omega)]
      · rw [if_neg e]
        exact h1 i z (by omega) hz
    · intro i hi hl'
      rw [List.getElem?_set, if_neg (by omega)]
      exact h2 i (by omega) (by simpa using hl')

/-- a pass over what is settled changes nothing -/
theorem passM_fix {xs : List Own} {F : List (Int × Int)} (hF : Fix xs F) : ∀ (k j : Nat) (m : Bool), xs.length = j + k → passM (xs.drop j) j F m = (F, m)
  | 0, j, m, hk => by rw [List.drop_eq_nil_of_le (by omega)]; rfl
  | k + 1, j, m, hk => by
    have hx : xs[j]? = some xs[j] := List.getElem?_eq_getElem (by omega)
    generalize xs[j] = x at hx
    have hy := hF j x hx
    have e : joinM (makesM F x) (makesM F x) = makesM F x := by unfold joinM; simp
    rw [passM_some hx hy, e, set_same hy]
    simp only [ne_eq, not_true, decide_false, Bool.or_false]
    exact passM_fix hF k (j + 1) m (by omega)
end
end Go.Proofs.YtehbhfobjechpaaGreatDoor

/- Contract: sparse.solve. -/
namespace Go.Proofs.YtehbhfobjechpaaGreatDoor
open Go.AI

theorem grow_newMap {h : Heap} (ok : HOk h) : Grows Nob h (h.new (.map [])) := by
  refine ⟨Nat.le_succ _, Nat.le_refl _, fun b hb _ => get_new_ne _ hb, ⟨fun b ob hb => ?_, fun b cs ro op s hb => ?_⟩⟩
  · simp only [Heap.new, Tr.get_set] at hb ⊢
    by_cases e : b = h.next
    · omega
    · rw [if_neg e] at hb; exact Nat.lt_succ_of_lt (ok.wf b ob hb)
  · simp only [Heap.new, Tr.get_set] at hb ⊢
    by_cases e : b = h.next
    · rw [if_pos e] at hb; cases hb
    · rw [if_neg e] at hb; exact ok.st b cs ro op s hb
theorem get_newMap (h : Heap) : (h.new (.map [])).tr.get h.next = some (.map []) := by simp [Heap.new, Tr.get_set]
@[simp] theorem next_newO (h : Heap) (o : AObj) : (h.new o).next = h.next + 1 := rfl
@[simp] theorem clock_newO (h : Heap) (o : AObj) : (h.new o).clock = h.clock := rfl

theorem repl_w (n : Nat) : repl [Value.int .i64 0, Value.int .i64 0] n = encW.flat (List.replicate n (0, 0)) := repl_eq encW (0, 0) rfl n

/-- how far it is: not begun; settled, told that there is more or not; settled, and told that there is no more -/
def SolP (xs : List Own) (n : Nat) (h : Heap) (p FB N : Nat) (mB ah : SV) (mp : Nat) : Prop := ∃ (F : List (Int × Int)) (more : Bool), St h p FB N mB ah mp more F ∧ ((n = 2 ∧ F = List.replicate N (0, 0) ∧ more = true) ∨ (n = 1 ∧ Fix xs F) ∨ (n = 0 ∧ Fix xs F ∧ more = false))

theorem solve_does {h : Heap} (ok : HOk h) {N : Nat} {mB : SV} {r1 : Bool} {n1 : Int} {xs : List Own} (m : FnOk h 0 N mB r1 n1 xs) (hN : N < 100000) :
    Does FF n_sparse_solve [.agg ⟨fnCells sMain 0 N mB⟩] h (fun v h' => Grows Nob h h' ∧ ∃ (p FB : Nat) (ah : SV) (mp : Nat) (F : List (Int × Int)), v = .pointer (some ⟨p, 0, none⟩) ∧ h.next ≤ p ∧ h.next ≤ FB ∧ St h' p FB N mB ah mp false F ∧ Fix xs F) := by
  have wn : IntKind.i64.wrap (N : Int) = N := wrap_i64 _ (by omega) (by omega)
  have r1' : roomy N = true := by simp [roomy]; omega
  have r2' : roomy (N * 16) = true := by simp [roomy]; omega
  have r3' : roomy N = true := by simp [roomy]; omega
  have hlenN : xs.length ≤ N := by have := m.cnt; omega
  have w1 : IntKind.i64.wrap (0 + 1) = 1 := wrap_i64 _ (by omega) (by omega)
  have w1' : IntKind.i64.wrap 1 = 1 := wrap_i64 _ (by omega) (by omega)
  refine Does.of c_sparse_solve ?_
  unfold b_sparse_solve
  simp [fnCells, wn, r1', r2', repl_w]
  obtain ⟨b, ro, o, s, ha, hl, hb0⟩ := blk_get m.one
  refine DrawR.cut (fun h2 => Grows Nob h h2 ∧ h2.tr.get h.next = some (.blk [.string sMain, .int .i64 0, .int .i64 N, .slice mB.a mB.l mB.c] false 0 0) ∧ h2.tr.get (h.next + 1) = some (.blk (encW.flat (List.replicate N (0, 0))) false 0 0) ∧ h2.tr.get (h.next + 2) = some (.map [])) ?_ ?_
  · have gA : Grows Nob h (newBlk (tick (newBlk h [.string sMain, .int .i64 0, .int .i64 N, .slice mB.a mB.l mB.c] 0)) (encW.flat (List.replicate N (0, 0))) 0) := (((Grows.refl ok).new _ _).tick).new _ _
    refine ⟨gA.trans (grow_newMap gA.ok), ?_, ?_, ?_⟩
    · simp [Heap.new, Tr.get_set, Nat.add_assoc]
    · simp [Heap.new, Tr.get_set, Nat.add_assoc]
    · exact get_newMap _
  rintro h2 ⟨g2, hF2, hW2, hM2⟩
  refine DrawR.call (by simpa [fnCells] using gahead_one g2.ok (name := sMain) (params := 0) (regs := N) (m.grow ok g2).one m.hto) ?_
  rintro _ h3 ⟨g3, ab, rfl, hab, s3, hA3⟩
  have gg3 := g2.trans g3
  have hF3 := g3.get g2.ok hF2 (fun h => h)
  have hW3 := g3.get g2.ok hW2 (fun h => h)
  have hM3 := g3.get g2.ok hM2 (fun h => h)
  have hM3' : h3.tr.get (h.next + 1 + 1) = some (.map []) := hM3
  have oF3 := gg3.ok.old hF3
  have lM : h.next + 2 < h3.next := gg3.ok.wf _ _ hM3
  simp [hF3, hW3, hM3', oF3]
  rw [runs_loop]
  unfold r_sparse_solve_2
  simp
  refine Runs.cut (fun h4 => Grows Nob h h4 ∧ h4.tr.get h.next = some (.blk [.string sMain, .int .i64 0, .int .i64 N, .slice mB.a mB.l mB.c] false 0 0) ∧ SolP xs 2 h4 h3.next (h.next + 1) N mB ⟨some ⟨ab, 0, none⟩, 1, 1⟩ (h.next + 2)) ?_ ?_
  · have n1 : ¬ h.next + 1 = h3.next := by omega
    have n2 : ¬ h.next = h3.next := by omega
    refine ⟨(gg3.new _ _).put ⟨0, by simp⟩ (.inl (by omega)), by simp [hF3, n2], List.replicate N (0, 0), true, ⟨⟨h3.clock, by simp [stCells]⟩, ⟨0, by simp [n1, hW3]⟩, by simp, by omega⟩, .inl ⟨rfl, rfl, rfl⟩⟩
  rintro h4 ⟨g4, hF4, hS4⟩
  refine Runs.loop (fun mm e hh => Env.get e 3 = .pointer (some ⟨h3.next, 0, none⟩) ∧ Env.get e 1 = .pointer (some ⟨h.next, 0, none⟩) ∧ Grows Nob h hh ∧ hh.tr.get h.next = some (.blk [.string sMain, .int .i64 0, .int .i64 N, .slice mB.a mB.l mB.c] false 0 0) ∧ SolP xs mm hh h3.next (h.next + 1) N mB ⟨some ⟨ab, 0, none⟩, 1, 1⟩ (h.next + 2)) ?_ (n := 2)
    ⟨by simp, by simp, g4, hF4, hS4⟩
  rintro mm e hh ⟨f3, f1, gh, hFh, F, more, kh, hcase⟩
  unfold r_sparse_solve_1
  obtain ⟨s1, hp⟩ := kh.st
  have hp' : hh.tr.get h3.next = some (.blk [.string sMain, .int .i64 0, .int .i64 N, .slice mB.a 1 mB.c, .slice (some ⟨ab, 0, none⟩) 1 1, .slice (some ⟨h.next + 1, 0, none⟩) N N, .map (some (h.next + 2)), .bool more] false 0 s1) := by rw [hp]; simp [stCells, hl]
  have nF : ¬ h.next = h3.next := by omega
  cases more with
  | false =>
    have hFx : Fix xs F := by
      rcases hcase with ⟨_, _, e⟩ | ⟨_, e⟩ | ⟨_, e, _⟩
      · cases e
      · exact e
      · exact e
    simp [f3, f1, hp']
    exact ⟨gh, by omega, h.next + 1, by omega, _, _, F, kh, hFx⟩
  | true =>
    simp [f3, f1, hp', hFh, nF, hl]
    refine Runs.cut (fun h5 => Grows Nob h h5 ∧ h5.tr.get h.next = some (.blk [.string sMain, .int .i64 0, .int .i64 N, .slice mB.a mB.l mB.c] false 0 0) ∧ St h5 h3.next (h.next + 1) N mB ⟨some ⟨ab, 0, none⟩, 1, 1⟩ (h.next + 2) false F) ?_ ?_
    · obtain ⟨s6, hf⟩ := kh.fa
      have n1 : ¬ h.next + 1 = h3.next := by omega
      exact ⟨gh.put ⟨_, hp'⟩ (.inl (by omega)), by simp [hFh, nF], ⟨hh.clock, by simp [stCells, hl]⟩, ⟨s6, by simp [n1, hf]⟩, kh.ln, kh.n1⟩
    rintro h5 ⟨g5, hF5, k5⟩
    rw [runs_loop]
    unfold r_sparse_solve_0
    simp [f3]
    refine OpsR.call (by simpa using come_does g5.ok h3.next) ?_
    rintro _ h6 ⟨rfl, g6⟩
    simp [f3]
    have g56 := g5.trans g6
    refine OpsR.call (V := fun _ h' => Grows (fun b => b = h3.next ∨ b = h.next + 1) h6 h' ∧ St h' h3.next (h.next + 1) N mB ⟨some ⟨ab, 0, none⟩, 1, 1⟩ (h.next + 2) (passM xs 0 F false).2 (passM xs 0 F false).1) (by simpa using sstep_does ok g56 m hN (by omega) (by omega) (k5.grow g5.ok g6 ⟨id, id⟩)) ?_
    rintro _ h7 ⟨g7, k7⟩
    simp [f3, w1, w1']
    rw [runs_loop]
    try unfold r_sparse_solve_0
    simp [f3, f1]
    have g07 : Grows Nob h h7 := g56.trans' g7 (fun _ _ h => h) (by rintro x hx (rfl | rfl) <;> omega)
    have hF7 := g7.get g56.ok (g6.get g5.ok hF5 (fun h => h)) (by rintro (e | e) <;> omega)
    rw [hl] at hF7
    rcases hcase with ⟨rfl, rfl, _⟩ | ⟨rfl, hfx⟩ | ⟨_, _, e⟩
    · refine ⟨1, by omega, g07, hF7, _, _, k7, .inr (.inl ⟨rfl, ?_⟩)⟩
      refine passM_first m.ord xs.length 0 _ _ (by omega) (by simpa using hlenN) (fun i x hi => absurd hi (by omega)) (fun i _ hi => ?_)
      simp at hi
      simp [hi]
    · refine ⟨0, by omega, g07, hF7, _, _, k7, .inr (.inr ⟨rfl, ?_, ?_⟩)⟩
      · have := passM_fix hfx xs.length 0 false (by omega)
        rw [List.drop_zero] at this
        rw [this]; exact hfx
      · have := passM_fix hfx xs.length 0 false (by omega)
        rw [List.drop_zero] at this
        rw [this]
    · cases e
end Go.Proofs.YtehbhfobjechpaaGreatDoor
