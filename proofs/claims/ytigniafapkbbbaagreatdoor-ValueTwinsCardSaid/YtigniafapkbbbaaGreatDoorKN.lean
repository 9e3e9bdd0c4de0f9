/- Contracts: back, shifted, asked, Many of one block; the law's lists. -/
import Derived.Test.YtigniafapkbbbaaGreatDoorKM
import Derived.Test.YtigniafapkbbbaaGreatDoorWalkRead
namespace Go.Proofs.YtigniafapkbbbaaGreatDoor
open Go.AI

/-- back's answer -/
def backM (r : Bool) (n at_ : Int) : Bool × Int := if r = false ∨ at_ = 0 then (false, n) else if n < 0 then (true, at_ - 1) else (true, Int.tmod n at_)

theorem back_does {h : Heap} (ok : HOk h) (r : Bool) (n : Int) {at_ : Int} (ha : 0 < at_ ∧ at_ < 1000) :
    Does FF n_turnerylaw4_back [.agg ⟨[.bool r, .int .i64 n]⟩, .int .i64 at_] h (fun v h' => v = .agg ⟨[.bool (backM r n at_).1, .int .i64 (backM r n at_).2]⟩ ∧ Grows Nob h h') := by
  refine Does.of c_turnerylaw4_back ?_
  unfold b_turnerylaw4_back
  have w1 : IntKind.i64.wrap (at_ - 1) = at_ - 1 := wrap_i64 _ (by omega) (by omega)
  have h0 : ¬ at_ = 0 := by omega
  have e1 : ¬ at_ = -1 := by omega
  have hm : IntKind.i64.wrap (Int.tmod n at_) = Int.tmod n at_ := by
    have h1 := Int.tmod_lt_of_pos n ha.1
    have h2 : -at_ < Int.tmod n at_ := Int.lt_tmod_of_pos n ha.1
    exact wrap_i64 _ (by omega) (by omega)
  unfold backM
  cases r with
  | false =>
    simp
    exact (((Grows.refl ok).new _ _).new _ _).put ⟨0, by simp⟩ (.inl (by omega))
  | true =>
    by_cases hn : n < 0
    · simp [hn, h0, w1]
      exact (((Grows.refl ok).new _ _).new _ _).put ⟨0, by simp⟩ (.inl (by omega))
    · simp [hn, h0, e1, hm]
      exact (((Grows.refl ok).new _ _).new _ _).put ⟨0, by simp⟩ (.inl (by omega))

theorem backM_lt {r : Bool} {n at_ : Int} (ha : 0 < at_) (h : (backM r n at_).1 = true) : ∃ k : Nat, (backM r n at_).2 = k ∧ (k : Int) < at_ := by
  unfold backM at h ⊢
  split at h
  · cases h
  · rename_i h1
    rw [if_neg h1]
    split
    · exact ⟨(at_ - 1).toNat, by omega, by omega⟩
    · have h2 := Int.tmod_lt_of_pos n ha
      have h3 : 0 ≤ Int.tmod n at_ := Int.tmod_nonneg _ (by omega)
      exact ⟨(Int.tmod n at_).toNat, by omega, by omega⟩

/-- an instruction that comes in -/
structure Raw where
  op : Int
  dst : Int
  ar : Bool
  an : Int
  br : Bool
  bn : Int
  fn : Int
  args : Value

def rawR (c : List Value) (x : Raw) : Prop := c = insCells x.op x.dst x.ar x.an x.br x.bn x.fn x.args

/-- the instruction that stands in the law's function -/
def rawOwn (j : Nat) (x : Raw) : Own :=
  ⟨if x.op < 2 ∨ x.op > 15 then 2 else x.op, ((j + 1 : Nat) : Int), (backM x.ar x.an ((j + 1 : Nat) : Int)).1, (backM x.ar x.an ((j + 1 : Nat) : Int)).2, (backM x.br x.bn ((j + 1 : Nat) : Int)).1, (backM x.br x.bn ((j + 1 : Nat) : Int)).2⟩

theorem rawOwn_op (j : Nat) (x : Raw) : 2 ≤ (rawOwn j x).op ∧ (rawOwn j x).op ≤ 15 := by
  unfold rawOwn; dsimp only; split <;> omega

theorem rawOwn_ord1 (j : Nat) (x : Raw) : Ord1 j (rawOwn j x) := by
  refine ⟨rfl, fun h => ?_, fun h => ?_⟩
  · obtain ⟨k, e, hk⟩ := backM_lt (by omega) h
    exact ⟨k, e, by omega⟩
  · obtain ⟨k, e, hk⟩ := backM_lt (by omega) h
    exact ⟨k, e, by omega⟩

theorem Ord1.inord {j : Nat} {x : Own} (h : Ord1 j x) (hop : 2 ≤ x.op ∧ x.op ≤ 15) : InOrd 1 j x := ⟨.inl hop, h.dst, h.a, h.b⟩

def owns (rs : List Raw) : List Own := rs.mapIdx rawOwn
@[simp] theorem length_owns (rs : List Raw) : (owns rs).length = rs.length := by simp [owns]

theorem owns_ord (rs : List Raw) : ∀ (j : Nat) x, (owns rs)[j]? = some x → Ord1 j x ∧ 2 ≤ x.op ∧ x.op ≤ 15 := by
  intro j x hx
  simp [owns] at hx
  obtain ⟨y, _, rfl⟩ := hx
  exact ⟨rawOwn_ord1 j y, rawOwn_op j y⟩

/-- the list, and once more -/
def twice (rs : List Raw) : List Own := owns rs ++ (owns rs).map (shiftO rs.length)

theorem shiftO_ord {n j : Nat} {x : Own} (h : Ord1 j x) : Ord1 (j + n) (shiftO n x) := by
  have e : ∀ (r : Bool) (k : Int), (r = true → ∃ i : Nat, k = i ∧ i < j + 1) → r = true → ∃ i : Nat, shiftV n r k = i ∧ i < j + n + 1 := by
    intro r k hr h
    obtain ⟨i, rfl, hi⟩ := hr h
    unfold shiftV
    split
    · exact ⟨i + n, by omega, by omega⟩
    · exact ⟨i, rfl, by omega⟩
  refine ⟨?_, e _ _ h.a, e _ _ h.b⟩
  show x.dst + n = _
  rw [h.dst]; omega

theorem twice_ord (rs : List Raw) : ∀ (j : Nat) x, (twice rs)[j]? = some x → Ord1 j x ∧ 2 ≤ x.op ∧ x.op ≤ 15 := by
  intro j x hx
  unfold twice at hx
  by_cases hj : j < (owns rs).length
  · rw [List.getElem?_append_left hj] at hx
    exact owns_ord rs j x hx
  · rw [List.getElem?_append_right (by omega), List.getElem?_map] at hx
    cases hy : (owns rs)[j - (owns rs).length]? with
    | none => rw [hy] at hx; cases hx
    | some y =>
      rw [hy] at hx; cases hx
      obtain ⟨o, p⟩ := owns_ord rs _ y hy
      have := shiftO_ord (n := rs.length) o
      rw [length_owns] at this hj
      rw [show j - rs.length + rs.length = j by omega] at this
      exact ⟨this, p⟩

theorem shifted_does {h : Heap} (ok : HOk h) (r : Bool) (n : Int) (w : Nat) (hn : r = true → n < 1000) (hw : w < 1000) :
    Does FF n_turnerylaw4_shifted [.agg ⟨[.bool r, .int .i64 n]⟩, .int .i64 w] h (fun v h' => v = .agg ⟨[.bool r, .int .i64 (shiftV w r n)]⟩ ∧ Grows Nob h h') := by
  refine Does.of c_turnerylaw4_shifted ?_
  unfold b_turnerylaw4_shifted
  cases r with
  | false =>
    simp [shiftV]
    exact (((Grows.refl ok).new _ _).new _ _).put ⟨0, by simp⟩ (.inl (by omega))
  | true =>
    have hn := hn rfl
    by_cases h0 : 0 < n
    · have w1 : IntKind.i64.wrap (n + w) = n + w := wrap_i64 _ (by omega) (by omega)
      simp [shiftV, h0, w1]
      exact (((Grows.refl ok).new _ _).new _ _).put ⟨0, by simp⟩ (.inl (by omega))
    · simp [shiftV, h0]
      exact (((Grows.refl ok).new _ _).new _ _).put ⟨0, by simp⟩ (.inl (by omega))

theorem raw_read {h : Heap} {v : Value} {rs : List Raw} (s : SliceR rawR 8 h v rs) {j : Nat} {x : Raw} (hj : rs[j]? = some x) :
    ∃ b off c, v = .slice (some ⟨b, off, none⟩) rs.length c ∧ (∃ cs ro o st, h.tr.get b = some (.blk cs ro o st)) ∧ ∀ k m, k + m ≤ 8 → ∀ {h' : Heap}, h'.tr.get b = h.tr.get b → readAt h' b (off + j * 8 + k) m = some (((insCells x.op x.dst x.ar x.an x.br x.bn x.fn x.args).drop k).take m) := by
  obtain ⟨a, cap, rfl, s⟩ := s
  rcases s with ⟨rfl, _⟩ | ⟨b, off, cs, ro, o, st, rfl, hb, he⟩
  · simp at hj
  · refine ⟨b, off, cap, rfl, ⟨_, _, _, _, hb⟩, fun k m hk h' e => ?_⟩
    obtain ⟨hl, hr⟩ := he j x hj
    simp at hl
    have hr' : (cs.drop (off + j * 8)).take 8 = insCells x.op x.dst x.ar x.an x.br x.bn x.fn x.args := hr
    rw [readAt_eq (e.trans hb) (by omega), ← hr', List.drop_take, List.take_take, List.drop_drop]
    congr 2
    omega
theorem asked_does {h : Heap} (ok : HOk h) (l : SV) (hl : l.l ≤ 90) :
    Does FF n_turnerylaw4_asked [l.v] h (fun v h' => Grows Nob h h' ∧ v = .agg ⟨[.slice none 0 0, .slice (some ⟨h.next + 5, 0, none⟩) 2 2]⟩ ∧
      (∃ o s, h'.tr.get (h.next + 5) = some (.blk (fnCells sMain 0 0 ⟨some ⟨h.next + 1, 0, none⟩, 1, 1⟩ ++ fnCells sF 1 ((l.l + 1 : Nat) : Int) ⟨some ⟨h.next + 3, 0, none⟩, 1, 1⟩) false o s)) ∧
      (∃ o s, h'.tr.get (h.next + 1) = some (.blk (blkCells ⟨none, 0, 0⟩ ⟨none, 0, 0⟩ false 0 ⟨none, 0, 0⟩) false o s)) ∧
      (∃ o s, h'.tr.get (h.next + 3) = some (.blk (blkCells ⟨none, 0, 0⟩ l false 0 ⟨none, 0, 0⟩) false o s))) := by
  have w1 : IntKind.i64.wrap ((l.l : Int) + 1) = (l.l : Int) + 1 := wrap_i64 _ (by omega) (by omega)
  refine Does.of c_turnerylaw4_asked ?_
  unfold b_turnerylaw4_asked
  simp [w1, fnCells, blkCells, Nat.add_assoc]
  refine ⟨?_, rfl, rfl⟩
  repeat (first | exact .refl ok | apply Grows.new | refine Grows.put ?_ (by simp [Nat.add_assoc]) (by simp))

theorem many_one {h : Heap} (ok : HOk h) {name : ByteArray} {p N : Int} {blocks list : SV} {n : Int} (hB : OneB h blocks nilS list false n nilS) (hll : list.l ≤ 1000) :
    Does FF n_turneryref3_Many [.agg ⟨fnCells name p N blocks⟩] h (fun v h' => v = .int .i64 list.l ∧ Grows Nob h h') := by
  obtain ⟨hl, b, ro, o, s, ha, hb⟩ := id hB
  have w1 : IntKind.i64.wrap (0 + 1) = 1 := wrap_i64 _ (by omega) (by omega)
  have w1' : IntKind.i64.wrap 1 = 1 := wrap_i64 _ (by omega) (by omega)
  have w0 : IntKind.i64.wrap 0 = 0 := wrap_i64 _ (by omega) (by omega)
  have wl : IntKind.i64.wrap (list.l : Int) = list.l := wrap_i64 _ (by omega) (by omega)
  have oB := ok.old hb
  have hb' : h.tr.get b = some (.blk [.slice none 0 0, .slice list.a list.l list.c, .int .i64 1, .bool false, .int .i64 n, .slice none 0 0] ro o s) := by rw [hb]; simp [blkCells, nilS]
  refine Does.of c_turneryref3_Many ?_
  unfold b_turneryref3_Many
  simp [fnCells, hl, ha]
  refine Runs.cut (fun h1 => Grows Nob h h1 ∧ h1.tr.get h.next = some (.blk [.string name, .int .i64 p, .int .i64 N, .slice (some ⟨b, 0, none⟩) 1 blocks.c] false 0 0)) ?_ ?_
  · exact ⟨(Grows.refl ok).new _ _, by simp⟩
  rintro h1 ⟨g1, hF1⟩
  have hb1 := g1.get ok hb' (fun h => h)
  have hst := g1.ok.st _ _ _ _ _ hF1
  have hst' := g1.ok.st _ _ _ _ _ hb1
  rw [runs_loop]
  unfold r_turneryref3_Many_0
  simp [hF1, hb1, w1, w1', w0, wl, hst']
  rw [runs_loop]
  try unfold r_turneryref3_Many_0
  have hF1' := hF1
  simp [hF1, hb1]
  exact g1.tick
end Go.Proofs.YtigniafapkbbbaaGreatDoor

/- The law ValueTwins: its first loop. -/
namespace Go.Proofs.YtigniafapkbbbaaGreatDoor
open Go.AI

theorem owns_take {rs : List Raw} {j : Nat} {x : Raw} (hj : rs[j]? = some x) : (owns rs).take j ++ [rawOwn j x] = (owns rs).take (j + 1) := by
  have : (owns rs)[j]? = some (rawOwn j x) := by simp [owns, hj]
  rw [List.take_add_one, this]; rfl

/-- how far the first loop has come -/
def LoopOne (h : Heap) (a : Option Addr) (cap : Nat) (rs : List Raw) (m : Nat) (e : Env) (h2 : Heap) : Prop :=
  ∃ (j : Nat) (w : Value), m = rs.length - j ∧ j ≤ rs.length ∧ Env.get e 0 = .slice a rs.length cap ∧ Env.get e 3 = .int .i64 j ∧ Env.get e 4 = w ∧ Env.get e 5 = .slice none 0 0 ∧ Env.get e 6 = .int .i64 j ∧ AccOf encOwn h.next h2 w ((owns rs).take j) ∧ Grows Nob h h2

theorem roundL_one {h h2 : Heap} {a : Option Addr} {cap : Nat} {rs : List Raw} (s : SliceR rawR 8 h (.slice a rs.length cap) rs) (hlen : rs.length ≤ 40) {j : Nat} (hjl : j < rs.length) {e : Env} {Q : AExit → Env → Heap → Prop} {w : Value} (f0 : Env.get e 0 = .slice a rs.length cap) (f3 : Env.get e 3 = .int .i64 j) (f4 : Env.get e 4 = w) (f5 : Env.get e 5 = .slice none 0 0) (f6 : Env.get e 6 = .int .i64 j) (hA : AccOf encOwn h.next h2 w ((owns rs).take j)) (ok : HOk h) (g2 : Grows Nob h h2)
    (C : ∀ e' h' w', Env.get e' 0 = .slice a rs.length cap → Env.get e' 3 = .int .i64 ((j + 1 : Nat) : Int) → Env.get e' 4 = w' → Env.get e' 5 = .slice none 0 0 → Env.get e' 6 = .int .i64 ((j + 1 : Nat) : Int) → AccOf encOwn h.next h' w' ((owns rs).take (j + 1)) → Grows Nob h h' → Q .normal e' h') :
    Runs FF r_turnerylaw4_ValueTwins_1 e h2 Q := by
  unfold r_turnerylaw4_ValueTwins_1
  have hxj : rs[j]? = some rs[j] := List.getElem?_eq_getElem hjl
  generalize rs[j] = x at hxj
  obtain ⟨b, off, c, hv, ⟨cs0, ro0, o0, st0, hb⟩, hrd⟩ := raw_read s hxj
  cases hv
  have hb2 := g2.get ok hb (fun h => h)
  have e2 : h2.tr.get b = h.tr.get b := by rw [hb2, hb]
  have hr0 := hrd 0 1 (by omega) e2
  have hr2 := hrd 2 2 (by omega) e2
  have hr4 := hrd 4 2 (by omega) e2
  simp [insCells, -readAt_def] at hr0 hr2 hr4
  obtain ⟨j', hj'⟩ : ∃ j', j' = j + 1 := ⟨_, rfl⟩
  rw [← hj'] at C
  have wj : IntKind.i64.wrap ((j : Int) + 1) = (j' : Int) := by rw [wrap_i64 _ (by omega) (by omega)]; omega
  have oB := g2.ok.old hb2
  simp [f0, f3, f4, f5, f6, hjl, hr0, hr2, hr4, wj, readAt_put_same, readAt_put, readAt_newBlk, readAt_tick, oB, -readAt_def]
  refine DrawR.cut (fun h3 => Grows Nob h2 h3 ∧ h3.tr.get h2.next = some (.blk [.int .i64 0, .int .i64 0, .bool false, .int .i64 0, .bool false, .int .i64 0, .int .i64 0, .slice none 0 0] false 0 0)) ?_ ?_
  · exact ⟨(Grows.refl g2.ok).tick.new _ _, by simp⟩
  rintro h3 ⟨g3, hN3⟩
  have gg3 := g2.trans g3
  have hb3 := g3.get g2.ok hb2 (fun h => h)
  have hst : st0 ≤ h2.clock := g2.ok.st _ _ _ _ _ hb2
  refine DrawR.call (by simpa using back_does gg3.ok x.ar x.an (at_ := (j' : Int)) (by omega)) ?_
  rintro _ h4 ⟨rfl, g4⟩
  have gg4 := gg3.trans g4
  have hb4 := g4.get gg3.ok hb3 (fun h => h)
  have hN4 := g4.get gg3.ok hN3 (fun h => h)
  simp [hb4, hst]
  refine DrawR.call (by simpa using back_does gg4.ok x.br x.bn (at_ := (j' : Int)) (by omega)) ?_
  rintro _ h5 ⟨rfl, g5⟩
  have gg5 := gg4.trans g5
  have hb5 := g5.get gg4.ok hb4 (fun h => h)
  have hN5 := g5.get gg4.ok hN4 (fun h => h)
  simp [hb5, hN5, hst]
  have g25 : Grows Nob h2 h5 := (g3.trans g4).trans g5
  have gp : Grows Nob h2 (put h5 h2.next 0 [.int .i64 0, .int .i64 0, .bool false, .int .i64 0, .bool false, .int .i64 0, .int .i64 0, .slice none 0 0] [.int .i64 x.op, .int .i64 j', .bool (backM x.ar x.an j').1, .int .i64 (backM x.ar x.an j').2, .bool (backM x.br x.bn j').1, .int .i64 (backM x.br x.bn j').2, .int .i64 0, .slice none 0 0] 0) := g25.put ⟨_, hN5⟩ (.inl (Nat.le_refl _))
  have fin : ∀ (o : Int) (hX : Heap), Grows Nob h2 hX → hX.next = h5.next → o = (rawOwn j x).op → ∃ w' h9, appendF (newBlk hX [.int .i64 o, .int .i64 j', .bool (backM x.ar x.an j').1, .int .i64 (backM x.ar x.an j').2, .bool (backM x.br x.bn j').1, .int .i64 (backM x.br x.bn j').2, .int .i64 0, .slice none 0 0] 0) [.int .i64 0, .int .i64 0, .bool false, .int .i64 0, .bool false, .int .i64 0, .int .i64 0, .slice none 0 0] 80 false w (.slice (some ⟨h5.next, 0, none⟩) 1 1) = some (w', h9) ∧ AccOf encOwn h.next h9 w' ((owns rs).take j') ∧ Grows Nob h h9 := by
    intro o hX gX eX eo
    have gX' := g2.trans gX
    have g8 := grow_newBlk gX'.ok (encOwn.enc (rawOwn j x)) 0
    have hw8 : SliceOf encOwn (newBlk hX (encOwn.enc (rawOwn j x)) 0) (.slice (some ⟨hX.next, 0, none⟩) 1 1) [rawOwn j x] := ⟨_, _, rfl, .inr ⟨hX.next, 0, _, _, _, _, rfl, get_newBlk _ _ _, by simp, by simp⟩⟩
    have hA8 := (hA.grow g2.ok gX (fun _ _ h => h)).grow gX'.ok g8 (fun _ _ h => h)
    have hnx : h.next ≤ (newBlk hX (encOwn.enc (rawOwn j x)) 0).next := by have := gX'.next; simp; omega
    obtain ⟨w', h9, ha, hA9, g9, hd9⟩ := acc_one (bytes := 80) g8.ok (z := [.int .i64 0, .int .i64 0, .bool false, .int .i64 0, .bool false, .int .i64 0, .int .i64 0, .slice none 0 0]) rfl hA8 hw8 (by simp; omega) (by decide) hnx
    refine ⟨w', h9, ?_, by rw [hj', ← owns_take hxj]; exact hA9, (gX'.trans g8).trans' g9 (fun _ _ h => h) (fun x hx h => absurd (hA8.of h) (by omega))⟩
    rw [← ha, eX, eo, hj']
    rfl
  have hcase : x.op < 2 ∨ (¬ x.op < 2 ∧ 15 < x.op) ∨ (¬ x.op < 2 ∧ ¬ 15 < x.op) := by omega
  rcases hcase with c1 | ⟨c1, c2⟩ | ⟨c1, c2⟩
  · obtain ⟨w', h9, ha, hA9, g9⟩ := fin 2 (put (put h5 h2.next 0 [.int .i64 0, .int .i64 0, .bool false, .int .i64 0, .bool false, .int .i64 0, .int .i64 0, .slice none 0 0] [.int .i64 x.op, .int .i64 j', .bool (backM x.ar x.an j').1, .int .i64 (backM x.ar x.an j').2, .bool (backM x.br x.bn j').1, .int .i64 (backM x.br x.bn j').2, .int .i64 0, .slice none 0 0] 0) h2.next 0 [.int .i64 x.op, .int .i64 j', .bool (backM x.ar x.an j').1, .int .i64 (backM x.ar x.an j').2, .bool (backM x.br x.bn j').1, .int .i64 (backM x.br x.bn j').2, .int .i64 0, .slice none 0 0] [.int .i64 2] 0) (gp.put ⟨h5.clock, by simp⟩ (.inl (Nat.le_refl _))) rfl (by unfold rawOwn; simp [c1])
    simp [c1, f0, f3, f4, f5, f6, wj, ha]
    exact C _ _ w' (by simp [f0]) (by simp) (by simp) (by simp [f5]) (by simp) hA9 g9
  · obtain ⟨w', h9, ha, hA9, g9⟩ := fin 2 (put (put h5 h2.next 0 [.int .i64 0, .int .i64 0, .bool false, .int .i64 0, .bool false, .int .i64 0, .int .i64 0, .slice none 0 0] [.int .i64 x.op, .int .i64 j', .bool (backM x.ar x.an j').1, .int .i64 (backM x.ar x.an j').2, .bool (backM x.br x.bn j').1, .int .i64 (backM x.br x.bn j').2, .int .i64 0, .slice none 0 0] 0) h2.next 0 [.int .i64 x.op, .int .i64 j', .bool (backM x.ar x.an j').1, .int .i64 (backM x.ar x.an j').2, .bool (backM x.br x.bn j').1, .int .i64 (backM x.br x.bn j').2, .int .i64 0, .slice none 0 0] [.int .i64 2] 0) (gp.put ⟨h5.clock, by simp⟩ (.inl (Nat.le_refl _))) rfl (by unfold rawOwn; simp [c1, c2])
    simp [c1, c2, f0, f3, f4, f5, f6, wj, ha]
    exact C _ _ w' (by simp [f0]) (by simp) (by simp) (by simp [f5]) (by simp) hA9 g9
  · obtain ⟨w', h9, ha, hA9, g9⟩ := fin x.op (put h5 h2.next 0 [.int .i64 0, .int .i64 0, .bool false, .int .i64 0, .bool false, .int .i64 0, .int .i64 0, .slice none 0 0] [.int .i64 x.op, .int .i64 j', .bool (backM x.ar x.an j').1, .int .i64 (backM x.ar x.an j').2, .bool (backM x.br x.bn j').1, .int .i64 (backM x.br x.bn j').2, .int .i64 0, .slice none 0 0] 0) gp rfl (by unfold rawOwn; simp [c1, c2])
    simp [c1, c2, f0, f3, f4, f5, f6, wj, ha]
    exact C _ _ w' (by simp [f0]) (by simp) (by simp) (by simp [f5]) (by simp) hA9 g9

theorem loop_one {h : Heap} (ok : HOk h) {a : Option Addr} {cap : Nat} {rs : List Raw} (s : SliceR rawR 8 h (.slice a rs.length cap) rs) (hlen : rs.length ≤ 40) {e : Env} {Q : AExit → Env → Heap → Prop} (f0 : Env.get e 0 = .slice a rs.length cap) (f3 : Env.get e 3 = .int .i64 0) (f4 : Env.get e 4 = .slice none 0 0) (f5 : Env.get e 5 = .slice none 0 0) (f6 : Env.get e 6 = .int .i64 0)
    (C : ∀ e' h' w, Env.get e' 3 = .int .i64 rs.length → Env.get e' 4 = w → Env.get e' 5 = .slice none 0 0 → AccOf encOwn h.next h' w (owns rs) → Grows Nob h h' → Q (.exit 0) e' h') :
    Runs FF (.loop r_turnerylaw4_ValueTwins_1) e h Q := by
  refine Runs.loop (LoopOne h a cap rs) ?_ (n := rs.length) ⟨0, _, rfl, by omega, f0, f3, f4, f5, f6, .inl ⟨by simp, rfl⟩, .refl ok⟩
  rintro m e h2 ⟨j, w, rfl, hj, f0, f3, f4, f5, f6, hA, g2⟩
  by_cases hjl : j < rs.length
  · refine roundL_one s hlen hjl f0 f3 f4 f5 f6 hA ok g2 ?_
    intro e' h' w' q0 q3 q4 q5 q6 hA' g'
    exact ⟨rs.length - (j + 1), by omega, j + 1, w', rfl, by omega, q0, q3, q4, q5, q6, hA', g'⟩
  · have : j = rs.length := by omega
    subst this
    unfold r_turnerylaw4_ValueTwins_1
    rw [List.take_of_length_le (by simp)] at hA
    simp [f0, f6]
    exact C _ _ w (by simp [f3]) (by simp [f4]) (by simp [f5]) hA g2
end Go.Proofs.YtigniafapkbbbaaGreatDoor

/- The law ValueTwins: its second loop. -/
namespace Go.Proofs.YtigniafapkbbbaaGreatDoor
open Go.AI

/-- how far the second loop has come -/
def LoopTwo (h : Heap) (v : Value) (rs : List Raw) (m : Nat) (e : Env) (h2 : Heap) : Prop :=
  ∃ (j : Nat) (w : Value), m = rs.length - j ∧ j ≤ rs.length ∧ Env.get e 3 = .int .i64 rs.length ∧ Env.get e 4 = v ∧ Env.get e 5 = w ∧ Env.get e 8 = .int .i64 j ∧ AccOf encOwn h.next h2 w (owns rs ++ ((owns rs).map (shiftO rs.length)).take j) ∧ Grows Nob h h2

theorem round_two {h h2 : Heap} {rs : List Raw} {W : SV} (hW : SliceOf encOwn h W.v (owns rs)) (hlen : rs.length ≤ 40) {j : Nat} (hjl : j < rs.length) {e : Env} {Q : AExit → Env → Heap → Prop} {w : Value} (f3 : Env.get e 3 = .int .i64 rs.length) (f4 : Env.get e 4 = W.v) (f5 : Env.get e 5 = w) (f8 : Env.get e 8 = .int .i64 j) (hA : AccOf encOwn h.next h2 w (owns rs ++ ((owns rs).map (shiftO rs.length)).take j)) (ok : HOk h) (g2 : Grows Nob h h2)
    (C : ∀ e' h' w', Env.get e' 3 = .int .i64 rs.length → Env.get e' 4 = W.v → Env.get e' 5 = w' → Env.get e' 8 = .int .i64 ((j + 1 : Nat) : Int) → AccOf encOwn h.next h' w' (owns rs ++ ((owns rs).map (shiftO rs.length)).take (j + 1)) → Grows Nob h h' → Q .normal e' h') :
    Runs FF r_turnerylaw4_ValueTwins_0 e h2 Q := by
  unfold r_turnerylaw4_ValueTwins_0
  have hjl' : j < (owns rs).length := by simpa using hjl
  have hxj : (owns rs)[j]? = some (owns rs)[j] := List.getElem?_eq_getElem hjl'
  generalize (owns rs)[j] = x at hxj
  obtain ⟨ho, hop⟩ := owns_ord rs j x hxj
  have hsh : ((owns rs).map (shiftO rs.length))[j]? = some (shiftO rs.length x) := by simp [hxj]
  obtain ⟨b, off, c, hv, _, ⟨cs0, ro0, o0, st0, hb⟩, hrd⟩ := hW.read hxj
  have hb2 := g2.get ok hb (fun h => h)
  have hr := hrd 0 8 (by decide)
  have hr2 : readAt h2 b (off + j * 8) 8 = some (encOwn.enc x) := by
    have e : readAt h2 b (off + j * 8) 8 = readAt h b (off + j * 8) 8 := by unfold readAt; rw [hb2, hb]
    rw [e]; simpa [-readAt_def] using hr
  have f4' := f4
  simp at hv
  obtain ⟨hWa, hWl, _⟩ := hv
  simp [-readAt_def] at hr2
  obtain ⟨j', hj'⟩ : ∃ j', j' = j + 1 := ⟨_, rfl⟩
  rw [← hj'] at C
  have wj : IntKind.i64.wrap ((j : Int) + 1) = (j' : Int) := by rw [wrap_i64 _ (by omega) (by omega)]; omega
  have wd : IntKind.i64.wrap (x.dst + rs.length) = x.dst + rs.length := by rw [wrap_i64 _ (by rw [ho.dst]; omega) (by rw [ho.dst]; omega)]
  simp [hWa, hWl] at f4'
  simp [f3, f4', f5, f8, hjl, hr2, wd, readAt_put_same, -readAt_def]
  refine OpsR.cut (fun h3 => Grows Nob h2 h3 ∧ ∃ t, h3.tr.get h2.next = some (.blk [.int .i64 x.op, .int .i64 (x.dst + rs.length), .bool x.ar, .int .i64 x.an, .bool x.br, .int .i64 x.bn, .int .i64 0, .slice none 0 0] false 0 t)) ?_ ?_
  · exact ⟨(((Grows.refl g2.ok).new _ _).put ⟨0, by simp⟩ (.inl (Nat.le_refl _))).put ⟨h2.clock, by simp⟩ (.inl (Nat.le_refl _)), h2.clock + 1, by simp⟩
  rintro h3 ⟨g3, t3, hN3⟩
  have gg3 := g2.trans g3
  have hnA : x.ar = true → x.an < 1000 := fun h => by obtain ⟨k, e, hk⟩ := ho.a h; omega
  have hnB : x.br = true → x.bn < 1000 := fun h => by obtain ⟨k, e, hk⟩ := ho.b h; omega
  refine OpsR.call (by simpa [f3] using shifted_does gg3.ok x.ar x.an rs.length hnA (by omega)) ?_
  rintro _ h4 ⟨rfl, g4⟩
  have gg4 := gg3.trans g4
  have hN4 := g4.get gg3.ok hN3 (fun h => h)
  simp [hN4]
  refine OpsR.cut (fun h5 => Grows Nob h2 h5 ∧ ∃ t, h5.tr.get h2.next = some (.blk [.int .i64 x.op, .int .i64 (x.dst + rs.length), .bool x.ar, .int .i64 (shiftV rs.length x.ar x.an), .bool x.br, .int .i64 x.bn, .int .i64 0, .slice none 0 0] false 0 t)) ?_ ?_
  · exact ⟨(g3.trans g4).put ⟨_, hN4⟩ (.inl (Nat.le_refl _)), h4.clock, by simp⟩
  rintro h5 ⟨g5, t5, hN5⟩
  have gg5 := g2.trans g5
  refine OpsR.call (by simpa [f3] using shifted_does gg5.ok x.br x.bn rs.length hnB (by omega)) ?_
  rintro _ h6 ⟨rfl, g6⟩
  have gg6 := gg5.trans g6
  have hN6 := g6.get gg5.ok hN5 (fun h => h)
  simp [hN6, f5]
  obtain ⟨hX, hhX⟩ : ∃ hX, hX = put h6 h2.next 4 [.int .i64 x.op, .int .i64 (x.dst + rs.length), .bool x.ar, .int .i64 (shiftV rs.length x.ar x.an), .bool x.br, .int .i64 x.bn, .int .i64 0, .slice none 0 0] [.bool x.br, .int .i64 (shiftV rs.length x.br x.bn)] 0 := ⟨_, rfl⟩
  have gX : Grows Nob h2 hX := by rw [hhX]; exact (g5.trans g6).put ⟨_, hN6⟩ (.inl (Nat.le_refl _))
  have gX' := g2.trans gX
  have g8 := grow_newBlk gX'.ok (encOwn.enc (shiftO rs.length x)) 0
  have hw8 : SliceOf encOwn (newBlk hX (encOwn.enc (shiftO rs.length x)) 0) (.slice (some ⟨hX.next, 0, none⟩) 1 1) [shiftO rs.length x] := ⟨_, _, rfl, .inr ⟨hX.next, 0, _, _, _, _, rfl, get_newBlk _ _ _, by simp, by simp⟩⟩
  have hA8 := (hA.grow g2.ok gX (fun _ _ h => h)).grow gX'.ok g8 (fun _ _ h => h)
  have hnx : h.next ≤ (newBlk hX (encOwn.enc (shiftO rs.length x)) 0).next := by have := gX'.next; simp; omega
  obtain ⟨w', h9, ha, hA9, g9, hd9⟩ := acc_one (bytes := 80) g8.ok (z := [.int .i64 0, .int .i64 0, .bool false, .int .i64 0, .bool false, .int .i64 0, .int .i64 0, .slice none 0 0]) rfl hA8 hw8 (by simp; omega) (by decide) hnx
  rw [hhX] at ha
  refine nextR_of ha ?_
  have g19 : Grows Nob h h9 := (gX'.trans g8).trans' g9 (fun _ _ h => h) (fun x hx h => absurd (hA8.of h) (by omega))
  have hA10 : AccOf encOwn h.next h9 w' (owns rs ++ ((owns rs).map (shiftO rs.length)).take j') := by
    rw [hj', List.take_add_one, hsh, ← List.append_assoc]
    exact hA9
  simp [f8, wj]
  exact C _ _ w' (by simp [f3]) (by simp [f4]) (by simp) (by simp) hA10 g19

theorem loop_two {h h1 : Heap} (ok : HOk h) {rs : List Raw} {W : SV} (hW : SliceOf encOwn h W.v (owns rs)) (hlen : rs.length ≤ 40) {e : Env} {Q : AExit → Env → Heap → Prop} {w : Value} (f3 : Env.get e 3 = .int .i64 rs.length) (f4 : Env.get e 4 = W.v) (f5 : Env.get e 5 = w) (f8 : Env.get e 8 = .int .i64 0) (hA : AccOf encOwn h.next h1 w (owns rs)) (g1 : Grows Nob h h1)
    (C : ∀ e' h' w', Env.get e' 4 = W.v → Env.get e' 5 = w' → AccOf encOwn h.next h' w' (twice rs) → Grows Nob h h' → Q (.exit 2) e' h') :
    Runs FF (.loop r_turnerylaw4_ValueTwins_0) e h1 Q := by
  refine Runs.loop (LoopTwo h W.v rs) ?_ (n := rs.length) ⟨0, _, rfl, by omega, f3, f4, f5, f8, by simpa using hA, g1⟩
  rintro m e h2 ⟨j, w, rfl, hj, f3, f4, f5, f8, hA, g2⟩
  by_cases hjl : j < rs.length
  · refine round_two hW hlen hjl f3 f4 f5 f8 hA ok g2 ?_
    intro e' h' w' q3 q4 q5 q8 hA' g'
    exact ⟨rs.length - (j + 1), by omega, j + 1, w', rfl, by omega, q3, q4, q5, q8, hA', g'⟩
  · have : j = rs.length := by omega
    subst this
    have hl : W.l = rs.length := by obtain ⟨a, cap, e, _⟩ := hW; simp at e; exact e.2.1
    unfold r_turnerylaw4_ValueTwins_0
    rw [List.take_of_length_le (by simp)] at hA
    have f4' := f4
    simp [hl] at f4'
    simp [f4', f8]
    exact C _ _ w (by simp [f4]) (by simp [f5]) hA g2
end Go.Proofs.YtigniafapkbbbaaGreatDoor

/- The law ValueTwins, walked. -/
namespace Go.Proofs.YtigniafapkbbbaaGreatDoor
open Go.AI

/-- what value.Do has answered -/
def Did (n0 : Nat) (h : Heap) (d c R : Nat) (B1 B2 L : SV) (k : Nat) : Prop :=
  (∃ s, h.tr.get d = some (.blk (fnCells sMain 0 0 B1 ++ fnCells sF 1 (R : Nat) B2) false 4 s)) ∧ OneW n0 h B2 L false 0 ∧ L.l = k

theorem Did.grow {n0 : Nat} {h h' : Heap} {d c R : Nat} {B1 B2 L : SV} {k : Nat} (w : Did n0 h d c R B1 B2 L k) (ok : HOk h) (g : Grows Nob h h') : Did n0 h' d c R B1 B2 L k := by
  obtain ⟨⟨s, hd⟩, ⟨e, b, o, s2, a, l, hb⟩, hl⟩ := w
  exact ⟨⟨s, g.get ok hd (fun h => h)⟩, ⟨e, b, o, s2, a, l, g.get ok hb (fun h => h)⟩, hl⟩

def DoQ (h3 : Heap) (k : Nat) (v : Value) (h' : Heap) : Prop :=
  Grows Nob h3 h' ∧ ∃ d c R, ∃ B1 B2 L : SV, v = .tuple #[.agg ⟨[.slice none 0 0, .slice (some ⟨d, 0, none⟩) 2 c]⟩, .agg #[.int .i64 0, .int .i64 0]] ∧ Did h3.next h' d c R B1 B2 L k

theorem do_asked {h h3 : Heap} (ok : HOk h) (hw : Ways h) {l : SV} {xs : List Own} (hs : SliceOf encOwn h l.v xs) (ho : ∀ (j : Nat) x, xs[j]? = some x → Ord1 j x ∧ 2 ≤ x.op ∧ x.op ≤ 15) (hlen : xs.length ≤ 80) (g3 : Grows Nob h h3)
    (hF : ∃ o s, h3.tr.get (h.next + 5) = some (.blk (fnCells sMain 0 0 ⟨some ⟨h.next + 1, 0, none⟩, 1, 1⟩ ++ fnCells sF 1 ((l.l + 1 : Nat) : Int) ⟨some ⟨h.next + 3, 0, none⟩, 1, 1⟩) false o s))
    (hm : ∃ o s, h3.tr.get (h.next + 1) = some (.blk (blkCells ⟨none, 0, 0⟩ ⟨none, 0, 0⟩ false 0 ⟨none, 0, 0⟩) false o s))
    (hf : ∃ o s, h3.tr.get (h.next + 3) = some (.blk (blkCells ⟨none, 0, 0⟩ l false 0 ⟨none, 0, 0⟩) false o s)) :
    Does FF n_value_Do [.agg ⟨[.slice none 0 0, .slice (some ⟨h.next + 5, 0, none⟩) 2 2]⟩] h3 (DoQ h3 (runV (initV (xs.length + 1)) xs).kept.length) := by
  have hl : l.l = xs.length := by obtain ⟨a, cap, e, _⟩ := hs; simp at e; exact e.2.1
  obtain ⟨o1, s1, hF⟩ := hF
  obtain ⟨o2, s2, hm⟩ := hm
  obtain ⟨o3, s3, hf⟩ := hf
  rw [hl] at hF
  have m : FnOk h3 0 0 ⟨some ⟨h.next + 1, 0, none⟩, 1, 1⟩ false 0 [] := ⟨⟨none, 0, 0⟩, ⟨none, 0, 0⟩, ⟨none, 0, 0⟩, ⟨rfl, _, false, o2, s2, rfl, hm⟩, rfl, rfl, .nil _ _ _, by simp, by simp, by simp, rfl, rfl⟩
  have f : FnOk h3 1 (xs.length + 1) ⟨some ⟨h.next + 3, 0, none⟩, 1, 1⟩ false 0 xs := ⟨⟨none, 0, 0⟩, l, ⟨none, 0, 0⟩, ⟨rfl, _, false, o3, s3, rfl, hf⟩, rfl, rfl, hs.nob ok g3, fun j x hx => Ord1.inord (ho j x hx).1 (ho j x hx).2, by omega, by simp, rfl, rfl⟩
  refine (value_two g3.ok (hw.grow ok g3) (fc := 2) m f (by omega) (fun j x hx => (ho j x hx).2) hF).mono ?_
  rintro v h' ⟨g, d, c, s, R, B1, B2, L, e, hd, hD, hB, hL⟩
  exact ⟨g, d, c, R, B1, B2, L, e, ⟨s, hD⟩, hB, hL⟩

def AskQ (h : Heap) (l : SV) (v : Value) (h' : Heap) : Prop :=
  Grows Nob h h' ∧ v = .agg ⟨[.slice none 0 0, .slice (some ⟨h.next + 5, 0, none⟩) 2 2]⟩ ∧
    (∃ o s, h'.tr.get (h.next + 5) = some (.blk (fnCells sMain 0 0 ⟨some ⟨h.next + 1, 0, none⟩, 1, 1⟩ ++ fnCells sF 1 ((l.l + 1 : Nat) : Int) ⟨some ⟨h.next + 3, 0, none⟩, 1, 1⟩) false o s)) ∧
    (∃ o s, h'.tr.get (h.next + 1) = some (.blk (blkCells ⟨none, 0, 0⟩ ⟨none, 0, 0⟩ false 0 ⟨none, 0, 0⟩) false o s)) ∧
    (∃ o s, h'.tr.get (h.next + 3) = some (.blk (blkCells ⟨none, 0, 0⟩ l false 0 ⟨none, 0, 0⟩) false o s))
theorem asked_q {h : Heap} (ok : HOk h) (l : SV) (hl : l.l ≤ 90) : Does FF n_turnerylaw4_asked [l.v] h (AskQ h l) := asked_does ok l hl

theorem kept_twice_len (rs : List Raw) : (runV (initV ((twice rs).length + 1)) (twice rs)).kept.length = (runV (initV ((owns rs).length + 1)) (owns rs)).kept.length := by
  have h := kept_twice (n := rs.length) (xs := owns rs) (by simp) (fun j x hx => (owns_ord rs j x hx).1)
  have e : (twice rs).length + 1 = 2 * rs.length + 1 := by simp [twice]; omega
  rw [e, length_owns]
  exact congrArg List.length h

theorem twins_does {h : Heap} (ok : HOk h) (hw : Ways h) {v : Value} {rs : List Raw} (s : SliceR rawR 8 h v rs) :
    Does FF n_turnerylaw4_ValueTwins [v] h (fun r h' => r = .bool true ∧ Grows Nob h h') := by
  obtain ⟨a, cap, rfl, _⟩ := id s
  refine Does.of c_turnerylaw4_ValueTwins ?_
  unfold b_turnerylaw4_ValueTwins
  by_cases hlen : 40 < rs.length
  · have : (40 : Int) < rs.length := by omega
    simp [this]
    exact .refl ok
  have hl' : ¬ ((40 : Int) < rs.length) := by omega
  simp [hl']
  refine loop_one ok s (by omega) (by simp) (by simp) (by simp) (by simp) (by simp) ?_
  intro e1 h1 w f3 f4 f5 hA g1
  obtain ⟨W, rfl⟩ := AccOf.sv hA
  have hWs := AccOf.sl hA
  simp [f4, f5]
  obtain ⟨v2, h2, ha2, hA2, g2⟩ := acc_appends (E := encOwn) (bytes := 80) (n0 := h1.next) (z := [.int .i64 0, .int .i64 0, .bool false, .int .i64 0, .bool false, .int .i64 0, .int .i64 0, .slice none 0 0]) g1.ok rfl (v := .slice none 0 0) (xs := []) (.inl ⟨rfl, rfl⟩) hWs (by simp; omega) (by decide) (Nat.le_refl _)
  have g2' : Grows Nob h1 h2 := g2.weak (by rintro b _ ⟨off, n, c, e⟩; cases e)
  refine nextR_of ha2 ?_
  simp
  refine loop_two g1.ok hWs (by omega) (by simp [f3]) (by simp [f4]) (w := v2) (by simp) (by simp) (by simpa using hA2) g2' ?_
  intro e3 h3 w3 q4 q5 hA3 g3
  obtain ⟨V, rfl⟩ := AccOf.sv hA3
  have hVs := AccOf.sl hA3
  have gg3 := g1.trans g3
  have hW3 := hWs.nob g1.ok g3
  simp [q4, q5]
  have hWl : W.l = rs.length := by obtain ⟨a, cap, e, _⟩ := hWs; simp at e; exact e.2.1
  have hVl : V.l = (twice rs).length := by obtain ⟨a, cap, e, _⟩ := hVs; simp at e; exact e.2.1
  have htl : (twice rs).length ≤ 80 := by simp [twice]; omega
  refine OpsR.call (V := AskQ h3 W) (by simpa using asked_q gg3.ok W (by omega)) ?_
  rintro _ h4 ⟨g4, rfl, hF4, hm4, hf4⟩
  have gg4 := gg3.trans g4
  simp
  have D := do_asked gg3.ok (hw.grow ok gg3) hW3 (owns_ord rs) (by simp; omega) g4 hF4 hm4 hf4
  refine OpsR.call (V := DoQ h4 (runV (initV ((owns rs).length + 1)) (owns rs)).kept.length) (by simpa using D) ?_
  rintro _ h5 ⟨g5, d, c, R, B1, B2, L, rfl, D5⟩
  have gg5 := gg4.trans g5
  simp
  refine OpsR.cut (fun h6 => Grows Nob h5 h6 ∧ (∃ s, h6.tr.get h5.next = some (.blk [.slice none 0 0, .slice (some ⟨d, 0, none⟩) 2 c] false 0 s)) ∧ (∃ s, h6.tr.get (h5.next + 1) = some (.blk [.int .i64 0, .int .i64 0] false 0 s))) ?_ ?_
  · exact ⟨((((Grows.refl gg5.ok).new _ _).new _ _).put ⟨0, by simp⟩ (.inl (by omega))).put ⟨0, by simp⟩ (.inl (by omega)), ⟨h5.clock, by simp⟩, ⟨h5.clock + 1, by simp⟩⟩
  rintro h6 ⟨g6, ⟨s6, hP6⟩, ⟨s7, hE6⟩⟩
  have gg6 := gg5.trans g6
  have D6 := D5.grow gg5.ok g6
  have g36 := (g4.trans g5).trans g6
  have hV6 := hVs.nob gg3.ok g36
  refine OpsR.call (V := AskQ h6 V) (by simpa [q5] using asked_q gg6.ok V (by omega)) ?_
  rintro _ h7 ⟨g7, rfl, hF7, hm7, hf7⟩
  have gg7 := gg6.trans g7
  simp
  have D2 := do_asked gg6.ok (hw.grow ok gg6) hV6 (twice_ord rs) htl g7 hF7 hm7 hf7
  rw [kept_twice_len] at D2
  refine OpsR.call (V := DoQ h7 (runV (initV ((owns rs).length + 1)) (owns rs)).kept.length) (by simpa using D2) ?_
  rintro _ h8 ⟨g8, d', c', R', B1', B2', L', rfl, D8⟩
  have gg8 := gg7.trans g8
  have g68 := g7.trans g8
  have D9 := D6.grow gg6.ok g68
  have hP8 := g68.get gg6.ok hP6 (fun h => h)
  have hE8 := g68.get gg6.ok hE6 (fun h => h)
  have oP8 := gg8.ok.old hP8
  have oE8 := gg8.ok.old hE8
  obtain ⟨⟨s10, hD8⟩, hB8, hL⟩ := id D9
  obtain ⟨⟨s11, hD8'⟩, hB8', hL'⟩ := id D8
  simp [fnCells] at hD8 hD8'
  have oD8 := gg8.ok.old hD8
  have oD8' := gg8.ok.old hD8'
  simp [hP8, hE8, oP8, oE8, hD8, hD8', oD8, oD8']
  refine DrawR.cut (fun h9 => Grows Nob h8 h9 ∧ (∃ s, s ≤ h8.clock + 1 + 1 ∧ h9.tr.get h8.next = some (.blk [.slice none 0 0, .slice (some ⟨d', 0, none⟩) 2 c'] false 0 s)) ∧ (∃ s, h9.tr.get (h8.next + 1) = some (.blk [.int .i64 0, .int .i64 0] false 0 s))) ?_ ?_
  · exact ⟨(((((Grows.refl gg8.ok).new _ _).new _ _).put ⟨0, by simp⟩ (.inl (by omega))).put ⟨0, by simp⟩ (.inl (by omega))).tick, ⟨h8.clock, by omega, by simp⟩, ⟨h8.clock + 1, by simp⟩⟩
  rintro h9 ⟨g9, ⟨s8, hs8, hQ9⟩, ⟨s9, hG9⟩⟩
  have gg9 := gg8.trans g9
  have hP9 := g9.get gg8.ok hP8 (fun h => h)
  have hD9 := g9.get gg8.ok hD8 (fun h => h)
  have hD9' := g9.get gg8.ok hD8' (fun h => h)
  obtain ⟨_, hB9, _⟩ := D9.grow gg8.ok g9
  obtain ⟨_, hB9', _⟩ := D8.grow gg8.ok g9
  have hk := kept_le (owns rs) (initV ((owns rs).length + 1))
  simp only [length_owns] at hk hL hL'
  have hk : (runV (initV (rs.length + 1)) (owns rs)).kept.length ≤ rs.length := by simpa [initV] using hk
  generalize (runV (initV (rs.length + 1)) (owns rs)).kept.length = k at *
  refine DrawR.call (by simpa [fnCells] using many_one gg9.ok (name := sF) (p := 1) (N := R) hB9.one (by omega)) ?_
  rintro _ h10 ⟨rfl, g10⟩
  have gg10 := gg9.trans g10
  have hP10 := g10.get gg9.ok hP9 (fun h => h)
  have hQ10 := g10.get gg9.ok hQ9 (fun h => h)
  have hD10 := g10.get gg9.ok hD9 (fun h => h)
  have hD10' := g10.get gg9.ok hD9' (fun h => h)
  have hst' : s11 ≤ h8.clock + 1 + 1 := by have := gg8.ok.st _ _ _ _ _ hD8'; omega
  simp [hQ10, hs8, hD10', hst']
  refine DrawR.call (by simpa [fnCells] using many_one gg10.ok (name := sF) (p := 1) (N := R') (hB9'.one.grow gg9.ok g10) (by omega)) ?_
  rintro _ h11 ⟨rfl, g11⟩
  have gg11 := gg10.trans g11
  have hP11 := g11.get gg10.ok hP10 (fun h => h)
  have hD11 := g11.get gg10.ok hD10 (fun h => h)
  rw [hL, hL']
  simp [hP11, hD11, q4]
  refine DrawR.call (by simpa [fnCells] using many_one gg11.ok (name := sF) (p := 1) (N := R) ((hB9.one.grow gg9.ok g10).grow gg10.ok g11) (by omega)) ?_
  rintro _ h12 ⟨rfl, g12⟩
  have gg12 := gg11.trans g12
  rw [hL]
  simp [hWl, hk]
  exact gg12
end Go.Proofs.YtigniafapkbbbaaGreatDoor
