/- Contracts: back, the list of instructions that the law is given, one instruction built of one given. -/
import Derived.Test.YtmdpidhnaddbcaaGreatDoorKI
import Derived.Test.YtmdpidhnaddbcaaGreatDoorWalkRead
namespace Go.Proofs.YtmdpidhnaddbcaaGreatDoor
open Go.AI

/-- back's answer -/
def backM (r : Bool) (n at_ : Int) : Bool × Int := if r = false ∨ at_ = 0 then (false, n) else if n < 0 then (true, at_ - 1) else (true, Int.tmod n at_)

theorem back_does {h : Heap} (ok : HOk h) (r : Bool) (n : Int) {at_ : Int} (ha : 0 < at_ ∧ at_ < 1000) :
    Does FF n_turnerylaw4_back [.agg ⟨[.bool r, .int .i64 n]⟩, .int .i64 at_] h (fun v h' => v = .agg ⟨[.bool (backM r n at_).1, .int .i64 (backM r n at_).2]⟩ ∧ Grows Nob h h') := by
  refine Does.of c_turnerylaw4_back ?_
  unfold b_turnerylaw4_back
  have w1 : IntKind.i64.wrap (at_ - 1) = at_ - 1 := wrap_i64 _ (by omega) (by omega)
  have h0 : ¬ at_ = 0 := by omega
  have e1 : ¬ at_ = -1 := by omega
  have hm : IntKind.i64.wrap (Int.tmod n at_) = Int.tmod n at_ := by
    have h1 := Int.tmod_lt_of_pos n ha.1
    have h2 : -at_ < Int.tmod n at_ := Int.lt_tmod_of_pos n ha.1
    exact wrap_i64 _ (by omega) (by omega)
  unfold backM
  cases r with
  | false =>
    simp
    exact (((Grows.refl ok).new _ _).new _ _).put ⟨0, by simp⟩ (.inl (by omega))
  | true =>
    by_cases hn : n < 0
    · simp [hn, h0, w1]
      exact (((Grows.refl ok).new _ _).new _ _).put ⟨0, by simp⟩ (.inl (by omega))
    · simp [hn, h0, e1, hm]
      exact (((Grows.refl ok).new _ _).new _ _).put ⟨0, by simp⟩ (.inl (by omega))

theorem backM_lt {r : Bool} {n at_ : Int} (ha : 0 < at_) (h : (backM r n at_).1 = true) : ∃ k : Nat, (backM r n at_).2 = k ∧ (k : Int) < at_ := by
  unfold backM at h ⊢
  split at h
  · cases h
  · rename_i h1
    rw [if_neg h1]
    split
    · exact ⟨(at_ - 1).toNat, by omega, by omega⟩
    · have h2 := Int.tmod_lt_of_pos n ha
      have h3 : 0 ≤ Int.tmod n at_ := Int.tmod_nonneg _ (by omega)
      exact ⟨(Int.tmod n at_).toNat, by omega, by omega⟩

/-- an instruction that comes in -/
structure Raw where
  op : Int
  dst : Int
  ar : Bool
  an : Int
  br : Bool
  bn : Int
  fn : Int
  args : Value

def rawR (c : List Value) (x : Raw) : Prop := c = insCells x.op x.dst x.ar x.an x.br x.bn x.fn x.args

/-- the instruction that stands in the law's function -/
def rawOwn (j : Nat) (x : Raw) : Own :=
  ⟨if x.op < 2 ∨ x.op > 15 ∨ x.op = 5 ∨ x.op = 6 then 3 else x.op, ((j + 1 : Nat) : Int), (backM x.ar x.an ((j + 1 : Nat) : Int)).1, (backM x.ar x.an ((j + 1 : Nat) : Int)).2, (backM x.br x.bn ((j + 1 : Nat) : Int)).1, (backM x.br x.bn ((j + 1 : Nat) : Int)).2⟩

theorem rawOwn_ord (j : Nat) (x : Raw) : InOrd 1 j (rawOwn j x) := by
  refine ⟨?_, rfl, fun h => ?_, fun h => ?_⟩
  · unfold rawOwn; dsimp only; split <;> omega
  · obtain ⟨k, e, hk⟩ := backM_lt (by omega) h
    exact ⟨k, e, by omega⟩
  · obtain ⟨k, e, hk⟩ := backM_lt (by omega) h
    exact ⟨k, e, by omega⟩

theorem rawOwn_op (j : Nat) (x : Raw) : (rawOwn j x).op ≠ 5 ∧ (rawOwn j x).op ≠ 6 := by
  unfold rawOwn; dsimp only; split <;> omega

def owns (rs : List Raw) : List Own := rs.mapIdx rawOwn

theorem raw_read {h : Heap} {v : Value} {rs : List Raw} (s : SliceR rawR 8 h v rs) {j : Nat} {x : Raw} (hj : rs[j]? = some x) :
    ∃ b off c, v = .slice (some ⟨b, off, none⟩) rs.length c ∧ (∃ cs ro o st, h.tr.get b = some (.blk cs ro o st)) ∧ ∀ k m, k + m ≤ 8 → ∀ {h' : Heap}, h'.tr.get b = h.tr.get b → readAt h' b (off + j * 8 + k) m = some (((insCells x.op x.dst x.ar x.an x.br x.bn x.fn x.args).drop k).take m) := by
  obtain ⟨a, cap, rfl, s⟩ := s
  rcases s with ⟨rfl, _⟩ | ⟨b, off, cs, ro, o, st, rfl, hb, he⟩
  · simp at hj
  · refine ⟨b, off, cap, rfl, ⟨_, _, _, _, hb⟩, fun k m hk h' e => ?_⟩
    obtain ⟨hl, hr⟩ := he j x hj
    simp at hl
    have hr' : (cs.drop (off + j * 8)).take 8 = insCells x.op x.dst x.ar x.an x.br x.bn x.fn x.args := hr
    rw [readAt_eq (e.trans hb) (by omega), ← hr', List.drop_take, List.take_take, List.drop_drop]
    congr 2
    omega
end Go.Proofs.YtmdpidhnaddbcaaGreatDoor

/- Contracts: asked, Many of one empty block. -/
namespace Go.Proofs.YtmdpidhnaddbcaaGreatDoor
open Go.AI

theorem asked_does {h : Heap} (ok : HOk h) (l : SV) (hl : l.l ≤ 60) :
    Does FF n_turnerylaw4_asked [l.v] h (fun v h' => Grows Nob h h' ∧ v = .agg ⟨[.slice none 0 0, .slice (some ⟨h.next + 5, 0, none⟩) 2 2]⟩ ∧
      (∃ o s, h'.tr.get (h.next + 5) = some (.blk (fnCells sMain 0 0 ⟨some ⟨h.next + 1, 0, none⟩, 1, 1⟩ ++ fnCells sF 1 ((l.l + 1 : Nat) : Int) ⟨some ⟨h.next + 3, 0, none⟩, 1, 1⟩) false o s)) ∧
      (∃ o s, h'.tr.get (h.next + 1) = some (.blk (blkCells ⟨none, 0, 0⟩ ⟨none, 0, 0⟩ false 0 ⟨none, 0, 0⟩) false o s)) ∧
      (∃ o s, h'.tr.get (h.next + 3) = some (.blk (blkCells ⟨none, 0, 0⟩ l false 0 ⟨none, 0, 0⟩) false o s))) := by
  have w1 : IntKind.i64.wrap ((l.l : Int) + 1) = (l.l : Int) + 1 := wrap_i64 _ (by omega) (by omega)
  refine Does.of c_turnerylaw4_asked ?_
  unfold b_turnerylaw4_asked
  simp [w1, fnCells, blkCells, Nat.add_assoc]
  refine ⟨?_, rfl, rfl⟩
  repeat (first | exact .refl ok | apply Grows.new | refine Grows.put ?_ (by simp [Nat.add_assoc]) (by simp))

theorem many_empty {h : Heap} (ok : HOk h) {name : ByteArray} {p N : Int} {blocks list : SV} {n : Int} (hB : OneB h blocks nilS list false n nilS) (hll : list.l = 0) :
    Does FF n_turneryref3_Many [.agg ⟨fnCells name p N blocks⟩] h (fun v h' => v = .int .i64 0 ∧ Grows Nob h h') := by
  obtain ⟨hl, b, ro, o, s, ha, hb⟩ := id hB
  have w1 : IntKind.i64.wrap (0 + 1) = 1 := wrap_i64 _ (by omega) (by omega)
  have w1' : IntKind.i64.wrap 1 = 1 := wrap_i64 _ (by omega) (by omega)
  have w0 : IntKind.i64.wrap 0 = 0 := wrap_i64 _ (by omega) (by omega)
  have oB := ok.old hb
  have hb' : h.tr.get b = some (.blk [.slice none 0 0, .slice list.a 0 list.c, .int .i64 1, .bool false, .int .i64 n, .slice none 0 0] ro o s) := by rw [hb]; simp [blkCells, nilS, hll]
  refine Does.of c_turneryref3_Many ?_
  unfold b_turneryref3_Many
  simp [fnCells, hl, ha]
  refine Runs.cut (fun h1 => Grows Nob h h1 ∧ h1.tr.get h.next = some (.blk [.string name, .int .i64 p, .int .i64 N, .slice (some ⟨b, 0, none⟩) 1 blocks.c] false 0 0)) ?_ ?_
  · exact ⟨(Grows.refl ok).new _ _, by simp⟩
  rintro h1 ⟨g1, hF1⟩
  have hb1 := g1.get ok hb' (fun h => h)
  have hst := g1.ok.st _ _ _ _ _ hF1
  have hst' := g1.ok.st _ _ _ _ _ hb1
  rw [runs_loop]
  unfold r_turneryref3_Many_0
  simp [hF1, hb1, w1, w1', w0, hst']
  rw [runs_loop]
  try unfold r_turneryref3_Many_0
  have hF1' := hF1
  simp [hF1, hb1]
  exact g1.tick
end Go.Proofs.YtmdpidhnaddbcaaGreatDoor

/- The law DeadNothing, walked. -/
namespace Go.Proofs.YtmdpidhnaddbcaaGreatDoor
open Go.AI

theorem acc_one {α : Type} {E : Enc α} {h : Heap} (ok : HOk h) {n0 bytes : Nat} {z : List Value} {v w : Value} {xs : List α} {y : α} (hz : z.length = E.sz) (a : AccOf E n0 h v xs) (hw : SliceOf E h w [y])
    (hl : xs.length < 1000000) (hby : bytes ≤ 1000) (hn : n0 ≤ h.next) :
    ∃ v' h', appendF h z bytes false v w = some (v', h') ∧
      AccOf E n0 h' v' (xs ++ [y]) ∧ Grows (BlkOf v) h h' ∧ ∀ b, BlkOf v' b → b = h.next := by
  unfold appendF
  rw [news_sl hz hw]
  dsimp only
  have r1 : roomy (xs.length + 1) = true := by simp [roomy]; omega
  have r2 : roomy ((xs.length + 1) * bytes) = true := by
    have : (xs.length + 1) * bytes ≤ 1000000 * 1000 := Nat.mul_le_mul (by omega) hby
    simp [roomy]; omega
  have hp := E.pos
  have hp' : E.sz ≠ 0 := by omega
  rcases a with ⟨rfl, rfl⟩ | ⟨b, s, rfl, hb, hx, hb0⟩
  · have r3 : roomy bytes = true := by simp [roomy]; omega
    refine ⟨.slice (some ⟨h.next, 0, none⟩) 1 1, newBlk h (E.flat [y]) E.sz, ?_, .inr ⟨h.next, 0, rfl, by simp, by simp, hn⟩, (grow_newBlk ok _ _).nob, ?_⟩
    · have r4 : roomy 1 = true := rfl
      simp [appendV, hz, hp, r3, r4]
    · rintro b ⟨off, n, cap, e⟩; cases e; rfl
  · refine ⟨.slice (some ⟨h.next, 0, none⟩) (xs.length + 1) (xs.length + 1), newBlk { h with tr := h.tr.del b } (E.flat xs ++ E.flat [y]) E.sz, ?_, .inr ⟨h.next, 0, by simp, ?_, by simp, hn⟩, ?_, ?_⟩
    · have e1 : ¬ xs.length + 1 ≤ xs.length := by omega
      have e2 : (E.flat xs).take (xs.length * E.sz) = E.flat xs := List.take_of_length_le (by simp)
      simp [appendV, hz, hp, r1, r2, hb, e1, e2, hp']
    · have := get_newBlk { h with tr := h.tr.del b } (E.flat xs ++ E.flat [y]) E.sz
      rw [Enc.flat_append]
      exact this
    · refine ((grow_del ok b).weak ?_).trans (grow_newBlk (grow_del ok b).ok _ _).nob
      rintro x _ rfl
      exact ⟨_, _, _, rfl⟩
    · rintro b' ⟨off, n, cap, e⟩; cases e; rfl

theorem owns_take {rs : List Raw} {j : Nat} {x : Raw} (hj : rs[j]? = some x) : (owns rs).take j ++ [rawOwn j x] = (owns rs).take (j + 1) := by
  have : (owns rs)[j]? = some (rawOwn j x) := by simp [owns, hj]
  rw [List.take_add_one, this]; rfl

theorem deadNothing_does {h : Heap} (ok : HOk h) (hw : Ways h) {v : Value} {rs : List Raw} (s : SliceR rawR 8 h v rs) (n : Int) :
    Does FF n_turnerylaw4_DeadNothing [v, .int .i64 n] h (fun r h' => r = .bool true ∧ Grows Nob h h') := by
  obtain ⟨a, cap, rfl, _⟩ := id s
  refine Does.of c_turnerylaw4_DeadNothing ?_
  unfold b_turnerylaw4_DeadNothing
  by_cases hlen : 60 < rs.length
  · have : (60 : Int) < rs.length := by omega
    simp [this]
    exact .refl ok
  have hl' : ¬ ((60 : Int) < rs.length) := by omega
  simp [hl']
  refine Runs.loop (fun m e h2 => ∃ (j : Nat) (w : Value), m = rs.length - j ∧ j ≤ rs.length ∧ Env.get e 0 = .slice a rs.length cap ∧ Env.get e 1 = .int .i64 n ∧ Env.get e 5 = w ∧ Env.get e 6 = .int .i64 j ∧ AccOf encOwn h.next h2 w ((owns rs).take j) ∧ Grows Nob h h2) ?_ (n := rs.length)
    ⟨0, .slice none 0 0, rfl, by omega, by simp, by simp, by simp, by simp, .inl ⟨by simp, rfl⟩, .refl ok⟩
  rintro m e h2 ⟨j, w, rfl, hj, f0, f1, f5, f6, hA, g2⟩
  unfold r_turnerylaw4_DeadNothing_0
  by_cases hjl : j < rs.length
  · have hxj : rs[j]? = some rs[j] := List.getElem?_eq_getElem hjl
    generalize rs[j] = x at hxj
    obtain ⟨b, off, c, hv, ⟨cs0, ro0, o0, st0, hb⟩, hrd⟩ := raw_read s hxj
    cases hv
    have hb2 := g2.get ok hb (fun h => h)
    have e2 : h2.tr.get b = h.tr.get b := by rw [hb2, hb]
    have hr0 := hrd 0 1 (by omega) e2
    have hr2 := hrd 2 2 (by omega) e2
    have hr4 := hrd 4 2 (by omega) e2
    simp [insCells, -readAt_def] at hr0 hr2 hr4
    obtain ⟨j', hj'⟩ : ∃ j', j' = j + 1 := ⟨_, rfl⟩
    have wj : IntKind.i64.wrap ((j : Int) + 1) = (j' : Int) := by rw [wrap_i64 _ (by omega) (by omega)]; omega
    have oB := g2.ok.old hb2
    simp [f0, f1, f5, f6, hjl, hr0, hr2, hr4, wj, readAt_put_same, readAt_put, readAt_newBlk, readAt_tick, oB, -readAt_def]
    refine DrawR.cut (fun h3 => Grows Nob h2 h3 ∧ h3.tr.get h2.next = some (.blk [.int .i64 0, .int .i64 0, .bool false, .int .i64 0, .bool false, .int .i64 0, .int .i64 0, .slice none 0 0] false 0 0)) ?_ ?_
    · exact ⟨(Grows.refl g2.ok).tick.new _ _, by simp⟩
    rintro h3 ⟨g3, hN3⟩
    have gg3 := g2.trans g3
    have hb3 := g3.get g2.ok hb2 (fun h => h)
    have hst : st0 ≤ h2.clock := g2.ok.st _ _ _ _ _ hb2
    refine DrawR.call (by simpa using back_does gg3.ok x.ar x.an (at_ := (j' : Int)) (by omega)) ?_
    rintro _ h4 ⟨rfl, g4⟩
    have gg4 := gg3.trans g4
    have hb4 := g4.get gg3.ok hb3 (fun h => h)
    have hN4 := g4.get gg3.ok hN3 (fun h => h)
    simp [hb4, hst]
    refine DrawR.call (by simpa using back_does gg4.ok x.br x.bn (at_ := (j' : Int)) (by omega)) ?_
    rintro _ h5 ⟨rfl, g5⟩
    have gg5 := gg4.trans g5
    have hb5 := g5.get gg4.ok hb4 (fun h => h)
    have hN5 := g5.get gg4.ok hN4 (fun h => h)
    simp [hb5, hN5, hst]
    have g25 : Grows Nob h2 h5 := (g3.trans g4).trans g5
    have gp : Grows Nob h2 (put h5 h2.next 0 [.int .i64 0, .int .i64 0, .bool false, .int .i64 0, .bool false, .int .i64 0, .int .i64 0, .slice none 0 0] [.int .i64 x.op, .int .i64 j', .bool (backM x.ar x.an j').1, .int .i64 (backM x.ar x.an j').2, .bool (backM x.br x.bn j').1, .int .i64 (backM x.br x.bn j').2, .int .i64 0, .slice none 0 0] 0) := g25.put ⟨_, hN5⟩ (.inl (Nat.le_refl _))
    have fin : ∀ (o : Int) (hX : Heap), Grows Nob h2 hX → hX.next = h5.next → o = (rawOwn j x).op → ∃ w' h9, appendF (newBlk hX [.int .i64 o, .int .i64 j', .bool (backM x.ar x.an j').1, .int .i64 (backM x.ar x.an j').2, .bool (backM x.br x.bn j').1, .int .i64 (backM x.br x.bn j').2, .int .i64 0, .slice none 0 0] 0) [.int .i64 0, .int .i64 0, .bool false, .int .i64 0, .bool false, .int .i64 0, .int .i64 0, .slice none 0 0] 80 false w (.slice (some ⟨h5.next, 0, none⟩) 1 1) = some (w', h9) ∧ AccOf encOwn h.next h9 w' ((owns rs).take j') ∧ Grows Nob h h9 := by
      intro o hX gX eX eo
      have gX' := g2.trans gX
      have g8 := grow_newBlk gX'.ok (encOwn.enc (rawOwn j x)) 0
      have hw8 : SliceOf encOwn (newBlk hX (encOwn.enc (rawOwn j x)) 0) (.slice (some ⟨hX.next, 0, none⟩) 1 1) [rawOwn j x] := ⟨_, _, rfl, .inr ⟨hX.next, 0, _, _, _, _, rfl, get_newBlk _ _ _, by simp, by simp⟩⟩
      have hA8 := (hA.grow g2.ok gX (fun _ _ h => h)).grow gX'.ok g8 (fun _ _ h => h)
      have hnx : h.next ≤ (newBlk hX (encOwn.enc (rawOwn j x)) 0).next := by have := gX'.next; simp; omega
      obtain ⟨w', h9, ha, hA9, g9, hd9⟩ := acc_one (bytes := 80) g8.ok (z := [.int .i64 0, .int .i64 0, .bool false, .int .i64 0, .bool false, .int .i64 0, .int .i64 0, .slice none 0 0]) rfl hA8 hw8 (by simp; omega) (by decide) hnx
      refine ⟨w', h9, ?_, by rw [hj', ← owns_take hxj]; exact hA9, (gX'.trans g8).trans' g9 (fun _ _ h => h) (fun x hx h => absurd (hA8.of h) (by omega))⟩
      rw [← ha, eX, eo, hj']
      rfl
    have hcase : x.op < 2 ∨ (¬ x.op < 2 ∧ 15 < x.op) ∨ (¬ x.op < 2 ∧ ¬ 15 < x.op ∧ x.op = 5) ∨ (¬ x.op < 2 ∧ ¬ 15 < x.op ∧ ¬ x.op = 5 ∧ x.op = 6) ∨ (¬ x.op < 2 ∧ ¬ 15 < x.op ∧ ¬ x.op = 5 ∧ ¬ x.op = 6) := by omega
    rcases hcase with c1 | ⟨c1, c2⟩ | ⟨c1, c2, c3⟩ | ⟨c1, c2, c3, c4⟩ | ⟨c1, c2, c3, c4⟩
    · obtain ⟨w', h9, ha, hA9, g9⟩ := fin 3 (put (put h5 h2.next 0 [.int .i64 0, .int .i64 0, .bool false, .int .i64 0, .bool false, .int .i64 0, .int .i64 0, .slice none 0 0] [.int .i64 x.op, .int .i64 j', .bool (backM x.ar x.an j').1, .int .i64 (backM x.ar x.an j').2, .bool (backM x.br x.bn j').1, .int .i64 (backM x.br x.bn j').2, .int .i64 0, .slice none 0 0] 0) h2.next 0 [.int .i64 x.op, .int .i64 j', .bool (backM x.ar x.an j').1, .int .i64 (backM x.ar x.an j').2, .bool (backM x.br x.bn j').1, .int .i64 (backM x.br x.bn j').2, .int .i64 0, .slice none 0 0] [.int .i64 3] 0) (gp.put ⟨h5.clock, by simp⟩ (.inl (Nat.le_refl _))) rfl (by unfold rawOwn; simp [c1])
      simp [c1, f0, f1, f5, f6, wj, ha]
      exact ⟨rs.length - j', by omega, j', rfl, by omega, rfl, hA9, g9⟩
    · obtain ⟨w', h9, ha, hA9, g9⟩ := fin 3 (put (put h5 h2.next 0 [.int .i64 0, .int .i64 0, .bool false, .int .i64 0, .bool false, .int .i64 0, .int .i64 0, .slice none 0 0] [.int .i64 x.op, .int .i64 j', .bool (backM x.ar x.an j').1, .int .i64 (backM x.ar x.an j').2, .bool (backM x.br x.bn j').1, .int .i64 (backM x.br x.bn j').2, .int .i64 0, .slice none 0 0] 0) h2.next 0 [.int .i64 x.op, .int .i64 j', .bool (backM x.ar x.an j').1, .int .i64 (backM x.ar x.an j').2, .bool (backM x.br x.bn j').1, .int .i64 (backM x.br x.bn j').2, .int .i64 0, .slice none 0 0] [.int .i64 3] 0) (gp.put ⟨h5.clock, by simp⟩ (.inl (Nat.le_refl _))) rfl (by unfold rawOwn; simp [c1, c2])
      simp [c1, c2, f0, f1, f5, f6, wj, ha]
      exact ⟨rs.length - j', by omega, j', rfl, by omega, rfl, hA9, g9⟩
    · obtain ⟨w', h9, ha, hA9, g9⟩ := fin 3 (put (put h5 h2.next 0 [.int .i64 0, .int .i64 0, .bool false, .int .i64 0, .bool false, .int .i64 0, .int .i64 0, .slice none 0 0] [.int .i64 x.op, .int .i64 j', .bool (backM x.ar x.an j').1, .int .i64 (backM x.ar x.an j').2, .bool (backM x.br x.bn j').1, .int .i64 (backM x.br x.bn j').2, .int .i64 0, .slice none 0 0] 0) h2.next 0 [.int .i64 x.op, .int .i64 j', .bool (backM x.ar x.an j').1, .int .i64 (backM x.ar x.an j').2, .bool (backM x.br x.bn j').1, .int .i64 (backM x.br x.bn j').2, .int .i64 0, .slice none 0 0] [.int .i64 3] 0) (gp.put ⟨h5.clock, by simp⟩ (.inl (Nat.le_refl _))) rfl (by unfold rawOwn; simp [c1, c2, c3])
      rw [c3] at ha
      simp [c1, c2, c3, f0, f1, f5, f6, wj, ha]
      exact ⟨rs.length - j', by omega, j', rfl, by omega, rfl, hA9, g9⟩
    · obtain ⟨w', h9, ha, hA9, g9⟩ := fin 3 (put (put h5 h2.next 0 [.int .i64 0, .int .i64 0, .bool false, .int .i64 0, .bool false, .int .i64 0, .int .i64 0, .slice none 0 0] [.int .i64 x.op, .int .i64 j', .bool (backM x.ar x.an j').1, .int .i64 (backM x.ar x.an j').2, .bool (backM x.br x.bn j').1, .int .i64 (backM x.br x.bn j').2, .int .i64 0, .slice none 0 0] 0) h2.next 0 [.int .i64 x.op, .int .i64 j', .bool (backM x.ar x.an j').1, .int .i64 (backM x.ar x.an j').2, .bool (backM x.br x.bn j').1, .int .i64 (backM x.br x.bn j').2, .int .i64 0, .slice none 0 0] [.int .i64 3] 0) (gp.put ⟨h5.clock, by simp⟩ (.inl (Nat.le_refl _))) rfl (by unfold rawOwn; simp [c1, c2, c3, c4])
      rw [c4] at ha
      simp [c1, c2, c3, c4, f0, f1, f5, f6, wj, ha]
      exact ⟨rs.length - j', by omega, j', rfl, by omega, rfl, hA9, g9⟩
    · obtain ⟨w', h9, ha, hA9, g9⟩ := fin x.op (put h5 h2.next 0 [.int .i64 0, .int .i64 0, .bool false, .int .i64 0, .bool false, .int .i64 0, .int .i64 0, .slice none 0 0] [.int .i64 x.op, .int .i64 j', .bool (backM x.ar x.an j').1, .int .i64 (backM x.ar x.an j').2, .bool (backM x.br x.bn j').1, .int .i64 (backM x.br x.bn j').2, .int .i64 0, .slice none 0 0] 0) (gp) rfl (by unfold rawOwn; simp; intro; omega)
      have q5 : (x.op == 5) = false := by simpa using c3
      have q6 : (x.op == 6) = false := by simpa using c4
      simp [c1, c2, q5, q6, f0, f1, f5, f6, wj, ha]
      exact ⟨rs.length - j', by omega, j', rfl, by omega, rfl, hA9, g9⟩
  · have : j = rs.length := by omega
    subst this
    simp [f0, f1, f5, f6]
    have hA' : AccOf encOwn h.next h2 w (owns rs) := by
      have e : (owns rs).take rs.length = owns rs := List.take_of_length_le (by simp [owns])
      rw [e] at hA; exact hA
    have hsl := hA'.sl
    obtain ⟨la, lc, rfl, hsl2⟩ := id hsl
    have hol : (owns rs).length = rs.length := by simp [owns]
    obtain ⟨N, hN⟩ : ∃ N, N = rs.length + 1 := ⟨_, rfl⟩
    have A := asked_does g2.ok ⟨la, (owns rs).length, lc⟩ (by simp; omega)
    simp only [hol, ← hN] at A
    refine OpsR.call (by simpa [hol] using A) ?_
    rintro _ h3 ⟨g3, rfl, ⟨o3, s3, hF3⟩, ⟨o4, s4, hm3⟩, ⟨o5, s5, hf3⟩⟩
    have gg3 := g2.trans g3
    have oF3 := gg3.ok.old hF3
    have om3 := gg3.ok.old hm3
    have of3 := gg3.ok.old hf3
    have lt3 := oF3.lt
    simp [fnCells] at hF3
    simp [blkCells] at hm3 hf3
    have nFf : ¬ h2.next + 5 = h2.next + 3 := by omega
    have nmf : ¬ h2.next + 1 = h2.next + 3 := by omega
    have nVf : ¬ h3.next = h2.next + 3 := by omega
    simp [hF3, hm3, hf3, oF3, om3, of3, f1]
    refine OpsR.cut (fun h4 => Grows Nob h2 h4 ∧ (∃ s, h4.tr.get h3.next = some (.blk [.slice none 0 0, .slice (some ⟨h2.next + 5, 0, none⟩) 2 2] false 0 s)) ∧
      (∃ o s, h4.tr.get (h2.next + 5) = some (.blk (fnCells sMain 0 0 ⟨some ⟨h2.next + 1, 0, none⟩, 1, 1⟩ ++ fnCells sF 1 N ⟨some ⟨h2.next + 3, 0, none⟩, 1, 1⟩) false o s)) ∧
      (∃ o s, h4.tr.get (h2.next + 1) = some (.blk (blkCells ⟨none, 0, 0⟩ ⟨none, 0, 0⟩ false 0 ⟨none, 0, 0⟩) false o s)) ∧
      (∃ o s, h4.tr.get (h2.next + 3) = some (.blk (blkCells ⟨none, 0, 0⟩ ⟨la, rs.length, lc⟩ false n ⟨none, 0, 0⟩) false o s))) ?_ ?_
    · refine ⟨?_, ⟨h3.clock, by simp [nVf]⟩, ⟨o3, s3, by simp [nFf, oF3, hF3, fnCells]⟩, ⟨o4, s4, by simp [nmf, om3, hm3, blkCells]⟩, ⟨o5, h3.clock + 1, by simp [blkCells]⟩⟩
      exact (((g3.new _ _).put ⟨0, by simp⟩ (.inl (by have := g3.next; omega)))).put ⟨s5, by simp [of3, hf3, fun e => nVf (Eq.symm e)]⟩ (.inl (by omega))
    rintro h4 ⟨g4, ⟨s6, hV4⟩, ⟨o7, s7, hF4⟩, ⟨o8, s8, hm4⟩, ⟨o9, s9, hf4⟩⟩
    have gg4 := g2.trans g4
    have m : FnOk h4 0 0 ⟨some ⟨h2.next + 1, 0, none⟩, 1, 1⟩ false 0 [] := ⟨⟨none, 0, 0⟩, ⟨none, 0, 0⟩, ⟨none, 0, 0⟩, ⟨rfl, _, false, o8, s8, rfl, hm4⟩, rfl, rfl, .nil _ _ _, by simp, rfl, by simp, rfl, rfl⟩
    have f : FnOk h4 1 N ⟨some ⟨h2.next + 3, 0, none⟩, 1, 1⟩ false n (owns rs) := ⟨⟨none, 0, 0⟩, ⟨la, rs.length, lc⟩, ⟨none, 0, 0⟩, ⟨rfl, _, false, o9, s9, rfl, hf4⟩, rfl, rfl, by simpa [hol] using hsl.nob g2.ok g4, (by
      intro j x hx
      simp [owns] at hx
      obtain ⟨y, _, rfl⟩ := hx
      exact rawOwn_ord j y), by omega, by simp, rfl, rfl⟩
    have hq : ∀ (j : Nat) x, (owns rs)[j]? = some x → x.op ≠ 5 ∧ x.op ≠ 6 := by
      intro j x hx
      simp [owns] at hx
      obtain ⟨y, _, rfl⟩ := hx
      exact rawOwn_op j y
    refine OpsR.call (V := fun v h' => Grows Nob h4 h' ∧ ∃ d c s, ∃ B1 B2 list : SV, v = .tuple #[.agg ⟨[.slice none 0 0, .slice (some ⟨d, 0, none⟩) 2 c]⟩, .agg #[.int .i64 0, .int .i64 0]] ∧ h4.next ≤ d ∧ h'.tr.get d = some (.blk (fnCells sMain 0 0 B1 ++ fnCells sF 1 1 B2) false 4 s) ∧ OneW h4.next h' B2 list n ∧ list.l = 0) (by simpa using dead_two gg4.ok (hw.grow ok gg4) (fc := 2) m f (by omega) hq hF4) ?_
    rintro _ h5 ⟨g5, d, c, s10, B1, B2, L, rfl, hd, hD5, hB5, hL⟩
    have gg5 := gg4.trans g5
    simp [fnCells] at hD5
    have oD5 := gg5.ok.old hD5
    obtain ⟨eB, b5, o11, s11, aB, lB, hb5⟩ := id hB5
    simp [hD5, oD5, eB]
    refine OpsR.cut (fun h6 => Grows Nob h5 h6 ∧ ∃ s, h6.tr.get h5.next = some (.blk [.slice none 0 0, .slice (some ⟨d, 0, none⟩) 2 c] false 0 s)) ?_ ?_
    · exact ⟨((((Grows.refl gg5.ok).new _ _).new _ _).put ⟨0, by simp⟩ (.inl (by omega))).put ⟨0, by simp⟩ (.inl (by omega)), h5.clock, by simp⟩
    rintro h6 ⟨g6, s12, hV6⟩
    have gg6 := gg5.trans g6
    have hB6 : OneW h4.next h6 B2 L n := ⟨eB, b5, o11, s11, aB, lB, g6.get gg5.ok hb5 (fun h => h)⟩
    refine OpsR.call (by simpa [fnCells, eB] using many_empty gg6.ok (name := sF) (p := 1) (N := 1) hB6.one hL) ?_
    rintro _ h7 ⟨rfl, g7⟩
    have gg7 := gg6.trans g7
    have hV7 := g7.get gg6.ok hV6 (fun h => h)
    have hD7 := (g6.trans g7).get gg5.ok hD5 (fun h => h)
    have hb7 := (g6.trans g7).get gg5.ok hb5 (fun h => h)
    simp [hL] at hb7
    simp [hV7, hD7, hb7, f1, eB, aB]

    exact gg7
end Go.Proofs.YtmdpidhnaddbcaaGreatDoor
