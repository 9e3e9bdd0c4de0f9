/- The plain law: what the walker says, and what is left. -/
import Derived.Test.YtehbhfobjechpaaGreatDoorKH
import Derived.Test.YtehbhfobjechpaaGreatDoorKM
namespace Go.Proofs.YtehbhfobjechpaaGreatDoor
open Go.AI

theorem ofM_known {F : List (Int × Int)} {regs : List Int} {j : Nat} {r : Bool} {n : Int} (hk : ∀ i, i < j → ∃ v, regs[i]? = some v ∧ F[i]? = some (1, v)) (h : r = true → ∃ k : Nat, n = k ∧ k < j) : ofM F r n = (1, valOf regs r n) := by
  cases r with
  | false => rfl
  | true =>
    obtain ⟨k, rfl, hlt⟩ := h rfl
    obtain ⟨v, h1, h2⟩ := hk k hlt
    simp [ofM, valOf, h1, h2]

theorem makes_known {F : List (Int × Int)} {regs : List Int} {j : Nat} {x : Own} (q : InOrd 0 j x) (hk : ∀ i, i < j → ∃ v, regs[i]? = some v ∧ F[i]? = some (1, v)) :
    makesM F x = if (twoM x.op (valOf regs x.ar x.an) (valOf regs x.br x.bn)).2 then (1, (twoM x.op (valOf regs x.ar x.an) (valOf regs x.br x.bn)).1) else (2, 0) := by
  unfold makesM
  rw [ofM_known hk (fun e => by obtain ⟨k, h1, h2⟩ := q.a e; exact ⟨k, h1, by omega⟩), ofM_known hk (fun e => by obtain ⟨k, h1, h2⟩ := q.b e; exact ⟨k, h1, by omega⟩)]
  simp

theorem go_law {xs : List Own} {F : List (Int × Int)} {N : Nat} {r : Bool} {n : Int} (hF : Fix xs F) (q : ∀ (j : Nat) x, xs[j]? = some x → InOrd 0 j x) (hN : xs.length ≤ N) :
    ∀ (k j : Nat) (regs : List Int), xs.length = j + k → regs.length = N → (∀ i, i < j → ∃ v, regs[i]? = some v ∧ F[i]? = some (1, v)) →
      ((goM r n (xs.drop j) j regs) = (2, 0) ∧ ∃ x ∈ xs, keepF F x = some (turnedM F x)) ∨
      (∃ regs' : List Int, (∀ i, i < xs.length → ∃ v, regs'[i]? = some v ∧ F[i]? = some (1, v)) ∧ goM r n (xs.drop j) j regs = (0, valOf regs' r n))
  | 0, j, regs, hk, hl, h1 => by
    right
    refine ⟨regs, fun i hi => h1 i (by omega), ?_⟩
    rw [goM_none (by omega)]
  | k + 1, j, regs, hk, hl, h1 => by
    have hx : xs[j]? = some xs[j] := List.getElem?_eq_getElem (by omega)
    generalize xs[j] = x at hx
    have p := q j x hx
    have hm := makes_known p h1
    have hFj := hF j x hx
    rw [goM_some hx]
    by_cases ht : (twoM x.op (valOf regs x.ar x.an) (valOf regs x.br x.bn)).2 = true
    · rw [if_pos ht]
      rw [if_pos ht] at hm
      rw [hm] at hFj
      refine go_law hF q hN k (j + 1) _ (by omega) (by simpa using hl) ?_
      intro i hi
      by_cases e : j = i
      · subst e
        exact ⟨_, by rw [List.getElem?_set, if_pos rfl, if_pos (by omega)], hFj⟩
      · obtain ⟨v, h2, h3⟩ := h1 i (by omega)
        exact ⟨v, by rw [List.getElem?_set, if_neg e]; exact h2, h3⟩
    · rw [if_neg ht]
      rw [if_neg ht] at hm
      rw [hm] at hFj
      left
      refine ⟨rfl, x, List.mem_of_getElem? hx, ?_⟩
      unfold keepF
      rw [if_neg]
      rw [p.dst]
      simp [hFj]

theorem kept_none {xs : List Own} {F : List (Int × Int)} (hF : Fix xs F) (q : ∀ (j : Nat) x, xs[j]? = some x → InOrd 0 j x) {regs : List Int} (h1 : ∀ i, i < xs.length → ∃ v, regs[i]? = some v ∧ F[i]? = some (1, v)) : xs.filterMap (keepF F) = [] := by
  rw [List.filterMap_eq_nil_iff]
  intro x hx
  obtain ⟨j, hj⟩ := List.getElem?_of_mem hx
  have hl := (List.getElem?_eq_some_iff.mp hj).1
  have p := q j x hj
  obtain ⟨v, h2, h3⟩ := h1 j hl
  have hm := makes_known p (fun i hi => h1 i (by omega))
  rw [hF j x hj] at h3
  have ht : (twoM x.op (valOf regs x.ar x.an) (valOf regs x.br x.bn)).2 = true := by
    cases e : (twoM x.op (valOf regs x.ar x.an) (valOf regs x.br x.bn)).2 with
    | true => rfl
    | false =>
      rw [e] at hm
      rw [hm] at h3
      cases h3
  unfold keepF
  rw [if_pos]
  refine ⟨?_, ?_⟩
  · rw [p.dst]
    have := hF j x hj
    simp only [Option.some.injEq] at h3
    simp [this, h3]
  · have hb : nowM F x.br x.bn = (false, valOf regs x.br x.bn) := by
      have := ofM_known (F := F) (regs := regs) (j := j) (r := x.br) (n := x.bn) (fun i hi => h1 i (by omega)) (fun e => by obtain ⟨k, h1, h2⟩ := p.b e; exact ⟨k, h1, by omega⟩)
      unfold nowM
      cases hbr : x.br with
      | false => rw [if_neg (by simp)]; rfl
      | true =>
        rw [hbr] at this
        rw [this, if_pos ⟨rfl, rfl⟩]
    have hle := p.op.le
    unfold quietM
    by_cases h56 : x.op = 5 ∨ x.op = 6
    · rw [if_pos h56]
      have := two_ok ht h56
      simp [turnedM, hb, this]
    · rw [if_neg h56, if_neg (by omega)]
      simp [hle.1, hle.2]

theorem now_val {xs : List Own} {F : List (Int × Int)} {regs : List Int} {r : Bool} {n : Int} (h1 : ∀ i, i < xs.length → ∃ v, regs[i]? = some v ∧ F[i]? = some (1, v)) (hon : r = true → ∃ k : Nat, n = k ∧ k < xs.length + 0) : nowM F r n = (false, valOf regs r n) := by
  have := ofM_known (F := F) (regs := regs) (j := xs.length) (r := r) (n := n) h1 (fun e => by obtain ⟨k, h1, h2⟩ := hon e; exact ⟨k, h1, by omega⟩)
  unfold nowM
  cases hr : r with
  | false => rw [if_neg (by simp)]; rfl
  | true =>
    rw [hr] at this
    rw [this, if_pos ⟨rfl, rfl⟩]

/-- The law, in plain words: divided by 0, and something is left; or done, nothing left, and the number that it tells. -/
theorem plain_law {xs : List Own} {F : List (Int × Int)} {N : Nat} {r : Bool} {n : Int} (hF : Fix xs F) (q : ∀ (j : Nat) x, xs[j]? = some x → InOrd 0 j x) (hN : xs.length ≤ N) (hon : r = true → ∃ k : Nat, n = k ∧ k < xs.length + 0) :
    (outM N xs r n = (2, 0) ∧ 0 < (xs.filterMap (keepF F)).length) ∨ ((outM N xs r n).1 = 0 ∧ (xs.filterMap (keepF F)).length = 0 ∧ nowM F r n = (false, (outM N xs r n).2)) := by
  rcases go_law (r := r) (n := n) hF q hN xs.length 0 (List.replicate N 0) (by omega) (by simp) (fun i hi => absurd hi (by omega)) with ⟨h1, x, hx, hk⟩ | ⟨regs, h1, h2⟩
  · left
    rw [List.drop_zero] at h1
    refine ⟨h1, List.length_pos_of_mem (a := turnedM F x) ?_⟩
    exact List.mem_filterMap.2 ⟨x, hx, hk⟩
  · right
    rw [List.drop_zero] at h2
    have e : outM N xs r n = (0, valOf regs r n) := h2
    rw [e]
    exact ⟨rfl, by rw [kept_none hF q h1]; rfl, now_val h1 hon⟩
end Go.Proofs.YtehbhfobjechpaaGreatDoor

/- The law SparseStraight, walked. -/
namespace Go.Proofs.YtehbhfobjechpaaGreatDoor
open Go.AI

theorem owns_take {rs : List Raw} {j : Nat} {x : Raw} (hj : rs[j]? = some x) : (owns rs).take j ++ [rawOwn j x] = (owns rs).take (j + 1) := by
  have : (owns rs)[j]? = some (rawOwn j x) := by simp [owns, hj]
  rw [List.take_add_one, this]; rfl

theorem owns_ord {rs : List Raw} : ∀ (j : Nat) x, (owns rs)[j]? = some x → InOrd 0 j x := by
  intro j x hx
  simp [owns] at hx
  obtain ⟨y, _, rfl⟩ := hx
  exact rawOwn_ord j y

theorem straight_does {h : Heap} (ok : HOk h) (hw : Ways h) {v : Value} {rs : List Raw} (s : SliceR rawR 8 h v rs) :
    Does FF n_turnerylaw4_SparseStraight [v] h (fun r h' => r = .bool true ∧ Grows Nob h h') := by
  obtain ⟨a, cap, rfl, _⟩ := id s
  refine Does.of c_turnerylaw4_SparseStraight ?_
  unfold b_turnerylaw4_SparseStraight
  by_cases hlen : 60 < rs.length
  · have : (60 : Int) < rs.length := by omega
    simp [this]
    exact .refl ok
  have hl' : ¬ ((60 : Int) < rs.length) := by omega
  have wN : IntKind.i64.wrap ((rs.length : Int) + 1) = ((rs.length + 1 : Nat) : Int) := by rw [wrap_i64 _ (by omega) (by omega)]; omega
  obtain ⟨N, hN⟩ : ∃ N, N = rs.length + 1 := ⟨_, rfl⟩
  rw [← hN] at wN
  simp [hl', wN]
  refine Runs.cut (fun h1 => Grows Nob h h1 ∧ ∃ s, h1.tr.get h.next = some (.blk [.string sMain, .int .i64 0, .int .i64 N, .slice none 0 0] false 0 s)) ⟨(Grows.refl ok).var _ _, h.clock, by simp [sMain]⟩ ?_
  rintro h1 ⟨g1, s1, hG1⟩
  refine Runs.loop (fun m e h2 => ∃ (j : Nat) (w : SV), m = rs.length - j ∧ j ≤ rs.length ∧ Env.get e 0 = .slice a rs.length cap ∧ Env.get e 3 = .pointer (some ⟨h.next, 0, none⟩) ∧ Env.get e 4 = w.v ∧ Env.get e 5 = .int .i64 j ∧ AccOf encOwn h1.next h2 w.v ((owns rs).take j) ∧ Grows Nob h1 h2) ?_ (n := rs.length)
    ⟨0, ⟨none, 0, 0⟩, rfl, by omega, by simp, by simp, by simp, by simp, .inl ⟨by simp, rfl⟩, .refl g1.ok⟩
  rintro m e h2 ⟨j, w, rfl, hj, f0, f3, f4, f5, hA, g2⟩
  have gg2 := g1.trans g2
  unfold r_turnerylaw4_SparseStraight_0
  by_cases hjl : j < rs.length
  · have hxj : rs[j]? = some rs[j] := List.getElem?_eq_getElem hjl
    generalize rs[j] = x at hxj
    obtain ⟨b, off, c, hv, ⟨cs0, ro0, o0, st0, hb⟩, hrd⟩ := raw_read s hxj
    cases hv
    have hb2 := gg2.get ok hb (fun h => h)
    have e2 : h2.tr.get b = h.tr.get b := by rw [hb2, hb]
    have hr0 := hrd 0 1 (by omega) e2
    have hr2 := hrd 2 2 (by omega) e2
    have hr4 := hrd 4 2 (by omega) e2
    simp [insCells, -readAt_def] at hr0 hr2 hr4
    have wj : IntKind.i64.wrap ((j : Int) + 1) = (j : Int) + 1 := by rw [wrap_i64 _ (by omega) (by omega)]
    have oB := gg2.ok.old hb2
    simp [f0, f3, f4, f5, hjl, hr0, hr2, hr4, readAt_put_same, readAt_put, readAt_newBlk, readAt_tick, oB, -readAt_def]
    refine DrawR.cut (fun h3 => Grows Nob h2 h3 ∧ h3.tr.get h2.next = some (.blk [.int .i64 0, .int .i64 0, .bool false, .int .i64 0, .bool false, .int .i64 0, .int .i64 0, .slice none 0 0] false 0 0)) ?_ ?_
    · exact ⟨(Grows.refl gg2.ok).tick.new _ _, by simp⟩
    rintro h3 ⟨g3, hN3⟩
    have gg3 := gg2.trans g3
    have hb3 := g3.get gg2.ok hb2 (fun h => h)
    have hst : st0 ≤ h2.clock := gg2.ok.st _ _ _ _ _ hb2
    refine DrawR.call (by simpa using back_does gg3.ok x.ar x.an (at_ := (j : Int)) (by omega)) ?_
    rintro _ h4 ⟨rfl, g4⟩
    have gg4 := gg3.trans g4
    have hb4 := g4.get gg3.ok hb3 (fun h => h)
    have hN4 := g4.get gg3.ok hN3 (fun h => h)
    simp [hb4, hst]
    refine DrawR.call (by simpa using back_does gg4.ok x.br x.bn (at_ := (j : Int)) (by omega)) ?_
    rintro _ h5 ⟨rfl, g5⟩
    have gg5 := gg4.trans g5
    have hb5 := g5.get gg4.ok hb4 (fun h => h)
    have hN5 := g5.get gg4.ok hN4 (fun h => h)
    simp [hb5, hN5, hst]
    refine OpsR.cut (fun h6 => Grows Nob h2 h6 ∧ ∃ s, h6.tr.get h2.next = some (.blk [.int .i64 x.op, .int .i64 j, .bool (backM x.ar x.an j).1, .int .i64 (backM x.ar x.an j).2, .bool (backM x.br x.bn j).1, .int .i64 (backM x.br x.bn j).2, .int .i64 0, .slice none 0 0] false 0 s)) ?_ ?_
    · exact ⟨((g3.trans g4).trans g5).put ⟨_, hN5⟩ (.inl (Nat.le_refl _)), h5.clock, by simp⟩
    rintro h6 ⟨g6, s6, hN6⟩
    have fin : ∀ (o : Int) (br : Bool) (bn : Int) (hX : Heap), Grows Nob h2 hX → hX.next = h6.next → rawOwn j x = ⟨o, j, (backM x.ar x.an j).1, (backM x.ar x.an j).2, br, bn⟩ → ∃ (w' : SV) (h9 : Heap), appendF (newBlk hX [.int .i64 o, .int .i64 j, .bool (backM x.ar x.an j).1, .int .i64 (backM x.ar x.an j).2, .bool br, .int .i64 bn, .int .i64 0, .slice none 0 0] 0) [.int .i64 0, .int .i64 0, .bool false, .int .i64 0, .bool false, .int .i64 0, .int .i64 0, .slice none 0 0] 80 false (.slice w.a w.l w.c) (.slice (some ⟨h6.next, 0, none⟩) 1 1) = some (.slice w'.a w'.l w'.c, h9) ∧ AccOf encOwn h1.next h9 w'.v ((owns rs).take (j + 1)) ∧ Grows Nob h1 h9 := by
      intro o br bn hX gX eX eo
      have gX' := g2.trans gX
      have g8 := grow_newBlk gX'.ok (encOwn.enc (rawOwn j x)) 0
      have hw8 : SliceOf encOwn (newBlk hX (encOwn.enc (rawOwn j x)) 0) (.slice (some ⟨hX.next, 0, none⟩) 1 1) [rawOwn j x] := ⟨_, _, rfl, .inr ⟨hX.next, 0, _, _, _, _, rfl, get_newBlk _ _ _, by simp, by simp⟩⟩
      have hA8 := (hA.grow g2.ok gX (fun _ _ h => h)).grow gX'.ok g8 (fun _ _ h => h)
      have hnx : h1.next ≤ (newBlk hX (encOwn.enc (rawOwn j x)) 0).next := by have := gX'.next; simp; omega
      obtain ⟨w', h9, ha, hA9, g9, hd9⟩ := acc_one (bytes := 80) g8.ok (z := [.int .i64 0, .int .i64 0, .bool false, .int .i64 0, .bool false, .int .i64 0, .int .i64 0, .slice none 0 0]) rfl hA8 hw8 (by simp; omega) (by decide) hnx
      obtain ⟨L', rfl⟩ := AccOf.sv hA9
      refine ⟨L', h9, ?_, by rw [← owns_take hxj]; exact hA9, (gX'.trans g8).trans' g9 (fun _ _ h => h) (fun x hx h => absurd (hA8.of h) (by omega))⟩
      rw [eo, eX] at ha
      exact ha
    have done : ∀ (w' : SV) (h9 : Heap), AccOf encOwn h1.next h9 w'.v ((owns rs).take (j + 1)) → Grows Nob h1 h9 → True := fun _ _ _ _ => trivial
    have hcase : x.op < 1 ∨ 17 < x.op ∨ x.op = 1 ∨ x.op = 16 ∨ x.op = 17 ∨ (2 ≤ x.op ∧ x.op ≤ 15) := by omega
    rcases hcase with c | c | c | c | c | c
    · have hu : opM x.op = 2 := by unfold opM; rw [if_pos (by omega)]
      obtain ⟨w', h9, ha9, hA9, g9⟩ := fin 2 (backM x.br x.bn j).1 (backM x.br x.bn j).2 (put h6 h2.next 0 [.int .i64 x.op, .int .i64 j, .bool (backM x.ar x.an j).1, .int .i64 (backM x.ar x.an j).2, .bool (backM x.br x.bn j).1, .int .i64 (backM x.br x.bn j).2, .int .i64 0, .slice none 0 0] [.int .i64 2] 0) (g6.put ⟨_, hN6⟩ (.inl (Nat.le_refl _))) rfl (by unfold rawOwn; rw [hu]; simp [unary])
      simp [c, hN6, f0, f3, f4, f5, ha9, wj]
      exact ⟨rs.length - (j + 1), by omega, j + 1, rfl, by omega, w', ⟨rfl, rfl, rfl⟩, by omega, hA9, g9⟩
    · have c0 : ¬ x.op < 1 := by omega
      have hu : opM x.op = 2 := by unfold opM; rw [if_pos (by omega)]
      obtain ⟨w', h9, ha9, hA9, g9⟩ := fin 2 (backM x.br x.bn j).1 (backM x.br x.bn j).2 (put h6 h2.next 0 [.int .i64 x.op, .int .i64 j, .bool (backM x.ar x.an j).1, .int .i64 (backM x.ar x.an j).2, .bool (backM x.br x.bn j).1, .int .i64 (backM x.br x.bn j).2, .int .i64 0, .slice none 0 0] [.int .i64 2] 0) (g6.put ⟨_, hN6⟩ (.inl (Nat.le_refl _))) rfl (by unfold rawOwn; rw [hu]; simp [unary])
      simp [c0, c, hN6, f0, f3, f4, f5, ha9, wj]
      exact ⟨rs.length - (j + 1), by omega, j + 1, rfl, by omega, w', ⟨rfl, rfl, rfl⟩, by omega, hA9, g9⟩
    · have hu : opM x.op = 1 := by unfold opM; rw [if_neg (by omega)]; exact c
      rw [c] at hN6
      obtain ⟨w', h9, ha9, hA9, g9⟩ := fin 1 false 0 (put h6 h2.next 4 [.int .i64 1, .int .i64 j, .bool (backM x.ar x.an j).1, .int .i64 (backM x.ar x.an j).2, .bool (backM x.br x.bn j).1, .int .i64 (backM x.br x.bn j).2, .int .i64 0, .slice none 0 0] [.bool false, .int .i64 0] 0) (g6.put ⟨_, hN6⟩ (.inl (Nat.le_refl _))) rfl (by unfold rawOwn; rw [hu]; simp [unary])
      simp [c, hN6, f0, f3, f4, f5, ha9, wj]
      exact ⟨rs.length - (j + 1), by omega, j + 1, rfl, by omega, w', ⟨rfl, rfl, rfl⟩, by omega, hA9, g9⟩
    · have hu : opM x.op = 16 := by unfold opM; rw [if_neg (by omega)]; exact c
      rw [c] at hN6
      obtain ⟨w', h9, ha9, hA9, g9⟩ := fin 16 false 0 (put h6 h2.next 4 [.int .i64 16, .int .i64 j, .bool (backM x.ar x.an j).1, .int .i64 (backM x.ar x.an j).2, .bool (backM x.br x.bn j).1, .int .i64 (backM x.br x.bn j).2, .int .i64 0, .slice none 0 0] [.bool false, .int .i64 0] 0) (g6.put ⟨_, hN6⟩ (.inl (Nat.le_refl _))) rfl (by unfold rawOwn; rw [hu]; simp [unary])
      simp [c, hN6, f0, f3, f4, f5, ha9, wj]
      exact ⟨rs.length - (j + 1), by omega, j + 1, rfl, by omega, w', ⟨rfl, rfl, rfl⟩, by omega, hA9, g9⟩
    · have hu : opM x.op = 17 := by unfold opM; rw [if_neg (by omega)]; exact c
      rw [c] at hN6
      obtain ⟨w', h9, ha9, hA9, g9⟩ := fin 17 false 0 (put h6 h2.next 4 [.int .i64 17, .int .i64 j, .bool (backM x.ar x.an j).1, .int .i64 (backM x.ar x.an j).2, .bool (backM x.br x.bn j).1, .int .i64 (backM x.br x.bn j).2, .int .i64 0, .slice none 0 0] [.bool false, .int .i64 0] 0) (g6.put ⟨_, hN6⟩ (.inl (Nat.le_refl _))) rfl (by unfold rawOwn; rw [hu]; simp [unary])
      simp [c, hN6, f0, f3, f4, f5, ha9, wj]
      exact ⟨rs.length - (j + 1), by omega, j + 1, rfl, by omega, w', ⟨rfl, rfl, rfl⟩, by omega, hA9, g9⟩
    · have c0 : ¬ x.op < 1 := by omega
      have c7 : ¬ 17 < x.op := by omega
      have d1 := beq_no (show ¬ x.op = 1 by omega)
      have d2 := beq_no (show ¬ x.op = 16 by omega)
      have d3 := beq_no (show ¬ x.op = 17 by omega)
      have hu : opM x.op = x.op := by unfold opM; rw [if_neg (by omega)]
      have hnu : ¬ unary x.op := by unfold unary; omega
      obtain ⟨w', h9, ha9, hA9, g9⟩ := fin x.op (backM x.br x.bn j).1 (backM x.br x.bn j).2 h6 g6 rfl (by unfold rawOwn; rw [hu, if_neg hnu, if_neg hnu])
      simp [c0, c7, d1, d2, d3, hN6, f0, f3, f4, f5, ha9, wj]
      exact ⟨rs.length - (j + 1), by omega, j + 1, rfl, by omega, w', ⟨rfl, rfl, rfl⟩, by omega, hA9, g9⟩
  · have : j = rs.length := by omega
    subst this
    have hG2 := g2.get g1.ok hG1 (fun h => h)
    have hol : (owns rs).length = rs.length := by simp [owns]
    have hA2 : AccOf encOwn h1.next h2 w.v (owns rs) := by rw [← hol, List.take_length] at hA; exact hA
    have hwl : w.l = rs.length := by
      rcases hA2 with ⟨e0, e⟩ | ⟨b, s, e, _⟩
      · simp at e; rw [← hol, e0]; exact e.2.1
      · simp at e; rw [← hol]; exact e.2.1
    have oG2 := gg2.ok.old hG2
    have wn1 : IntKind.i64.wrap ((rs.length : Int) - 1) = (rs.length : Int) - 1 := wrap_i64 _ (by omega) (by omega)
    -- the function's one block
    obtain ⟨r1, n1, hrn, hon⟩ : ∃ (r1 : Bool) (n1 : Int), ((0 < rs.length ∧ r1 = true ∧ n1 = (rs.length : Int) - 1) ∨ (rs.length = 0 ∧ r1 = false ∧ n1 = 0)) ∧ (r1 = true → ∃ k : Nat, n1 = k ∧ k < (owns rs).length + 0) := by
      by_cases h0 : 0 < rs.length
      · exact ⟨true, _, .inl ⟨h0, rfl, rfl⟩, fun _ => ⟨rs.length - 1, by omega, by omega⟩⟩
      · exact ⟨false, _, .inr ⟨by omega, rfl, rfl⟩, fun e => by cases e⟩
    obtain ⟨c0, hd⟩ : ∃ c : Bool, decide (0 < rs.length) = c := ⟨_, rfl⟩
    have hl0 : h.next < h1.next := g1.ok.old hG1
    have hl1 : h1.next ≤ h2.next := g2.next
    have fin : ∀ (e : Env) (h3 : Heap), Env.get e 8 = .pointer (some ⟨h2.next + 3, 0, none⟩) → Grows Nob h h3 → h3.tr.get (h2.next + 3) = some (.blk [.slice none 0 0, .slice (some ⟨h2.next + 2, 0, none⟩) 1 1] false 0 h3.clock) → True := fun _ _ _ _ _ => trivial
    cases c0 with
    | true =>
      simp [f0, f3, f4, f5, hwl, hd, wn1, hG2, oG2, Nat.add_assoc]
      have hon : true = true → ∃ k : Nat, (((rs.length : Int) - 1) : Int) = k ∧ k < (owns rs).length + 0 := fun _ => ⟨rs.length - 1, by have := of_decide_eq_true hd; omega, by have := of_decide_eq_true hd; omega⟩
      refine OpsR.cut (fun h3 => Grows Nob h h3 ∧ Grows (fun x => x = h.next) h2 h3 ∧ (∃ s, h3.tr.get (h2.next + 3) = some (.blk [.slice none 0 0, .slice (some ⟨h2.next + 2, 0, none⟩) 1 1] false 0 s)) ∧ (∃ o s, h3.tr.get (h2.next + 2) = some (.blk (fnCells sMain 0 N ⟨some ⟨h2.next + 1, 0, none⟩, 1, 1⟩) false o s)) ∧
          ∃ o s, h3.tr.get (h2.next + 1) = some (.blk (blkCells ⟨none, 0, 0⟩ ⟨w.a, rs.length, w.c⟩ true ((rs.length : Int) - 1) ⟨none, 0, 0⟩) false o s)) ?_ ?_
      · have key : ∀ H : Heap, Grows (fun x => x = h.next) h2 H → Grows Nob h H ∧ Grows (fun x => x = h.next) h2 H := fun H g => ⟨gg2.trans' g (fun _ _ h => h) (by rintro x hx rfl; omega), g⟩
        have e1 : ∀ k, ¬ h2.next + k = h.next := by intro k; omega
        have e0 : ¬ h2.next = h.next := by omega
        have e2 : ¬ h.next = h2.next := by omega
        have e3 : ∀ k, ¬ h.next = h2.next + k := by intro k; omega
        rw [← and_assoc]
        refine ⟨key _ ?_, ⟨h2.clock + 3, ?_⟩, ⟨0, 0, ?_⟩, ⟨0, 0, ?_⟩⟩
        · refine Grows.put (Grows.new (Grows.new (Grows.put (Grows.new (Grows.put (Grows.put (Grows.new (Grows.refl g2.ok) _ _) ⟨0, ?_⟩ (.inl ?_)) ⟨h2.clock, ?_⟩ (.inl ?_)) _ _) ⟨s1, ?_⟩ (.inr ?_)) _ _) _ _) ⟨0, ?_⟩ (.inl ?_)
          · simp
          · omega
          · simp
          · omega
          · simp [e0, e2, e3, hG2]
          · rfl
          · simp [e1, e0, Nat.add_assoc]
          · omega
        · simp [Nat.add_assoc]
        · simp [e1, e0, e2, e3, fnCells, Nat.add_assoc]
        · simp [e1, e0, e2, e3, blkCells, Nat.add_assoc]
      rintro h3 ⟨g3, g23, ⟨sU, hU3⟩, ⟨oF, sF, hF3⟩, ⟨oB, sB, hB3⟩⟩
      have hA3 := hA2.grow g2.ok g23 (fun b hb e => by have := hA2.of hb; omega)
      have hsl3 : SliceOf encOwn h3 (SV.v ⟨w.a, rs.length, w.c⟩) (owns rs) := by have := hA3.sl; rw [SV.v_def, hwl] at this; exact this
      have m : FnOk h3 0 N ⟨some ⟨h2.next + 1, 0, none⟩, 1, 1⟩ true ((rs.length : Int) - 1) (owns rs) := ⟨⟨none, 0, 0⟩, ⟨w.a, rs.length, w.c⟩, ⟨none, 0, 0⟩, ⟨rfl, _, false, oB, sB, rfl, hB3⟩, rfl, rfl, hsl3, owns_ord, by omega, hon, rfl, rfl⟩
      refine OpsR.call (V := fun v h' => Grows Nob h3 h' ∧ ∃ (steps : Int), v = .tuple #[.agg ⟨[.int .i64 (outM N (owns rs) true ((rs.length : Int) - 1)).1, .int .i64 (outM N (owns rs) true ((rs.length : Int) - 1)).2, .slice none 0 0, .int .i64 steps]⟩, .agg ⟨[.int .i64 0, .int .i64 0]⟩]) (by simpa using do_does g3.ok (hw.grow ok g3) m (by omega) (by omega) (fc := 1) hF3) ?_
      rintro _ h4 ⟨g4, steps, rfl⟩
      have gg4 := g3.trans g4
      have hU4 := g4.get g3.ok hU3 (fun h => h)
      have oU4 := gg4.ok.old hU4
      have lU4 : h2.next + 3 < h4.next := oU4
      have eU : ∀ k, ¬ h2.next + 3 = h4.next + k := by intro k; omega
      have eU0 : ¬ h2.next + 3 = h4.next := by omega
      generalize hout : outM N (owns rs) true ((rs.length : Int) - 1) = out
      simp [hU4, oU4, eU, eU0, Nat.add_assoc]
      refine OpsR.cut (fun h5 => Grows Nob h4 h5 ∧ (∃ s, h5.tr.get h4.next = some (.blk [.int .i64 out.1, .int .i64 out.2, .slice none 0 0, .int .i64 steps] false 0 s)) ∧ ∃ s, h5.tr.get (h4.next + 1) = some (.blk [.int .i64 0, .int .i64 0] false 0 s)) ?_ ?_
      · refine ⟨Grows.put (Grows.put (Grows.new (Grows.new (Grows.refl gg4.ok) _ _) _ _) ⟨0, ?_⟩ (.inl ?_)) ⟨0, ?_⟩ (.inl ?_), ⟨h4.clock, ?_⟩, ⟨h4.clock + 1, ?_⟩⟩
        · simp
        · omega
        · simp
        · omega
        · simp
        · simp
      rintro h5 ⟨g5, ⟨s7, hO5⟩, s8, hE5⟩
      have gg5 := gg4.trans g5
      have g35 := g4.trans g5
      have hF5 := g35.get g3.ok hF3 (fun h => h)
      refine OpsR.call (V := fun v h' => Grows Nob h5 h' ∧ ∃ (d c s R : Nat) (B L : SV) (k : Int) (F : List (Int × Int)), v = .tuple #[.agg ⟨[.slice none 0 0, .slice (some ⟨d, 0, none⟩) 1 c]⟩, .agg #[.int .i64 0, .int .i64 0]] ∧ h5.next ≤ d ∧ h'.tr.get d = some (.blk (fnCells sMain 0 R B) false 4 s) ∧ Came N (owns rs) true ((rs.length : Int) - 1) h5.next h' R B L k F) (by simpa using sparse_does gg5.ok (hw.grow ok gg5) (m.grow g3.ok g35) (by omega) (by omega) (fc := 1) hF5) ?_
      rintro _ h6 ⟨g6, d, c, s9, R, B, L, k, F, rfl, hd6, hD6, C⟩
      have gg6 := gg5.trans g6
      have hO6 := g6.get gg5.ok hO5 (fun h => h)
      have hE6 := g6.get gg5.ok hE5 (fun h => h)
      have oO6 := gg6.ok.old hO6
      have oE6 := gg6.ok.old hE6
      have oD6 := gg6.ok.old hD6
      obtain ⟨eB, bb, ob, sb, aB, lB, hb6⟩ := C.one
      have ob6 := gg6.ok.old hb6
      replace hb6 : h6.tr.get bb = some (.blk [.slice none 0 0, .slice L.a L.l L.c, .int .i64 1, .bool (nowM F true ((rs.length : Int) - 1)).1, .int .i64 k, .slice none 0 0] false ob sb) := hb6
      have last : Grows Nob h (put (put (newBlk (newBlk h6 [.slice none 0 0, .slice none 0 0] 0) [.int .i64 0, .int .i64 0] 0) h6.next 0 [.slice none 0 0, .slice none 0 0] [.slice none 0 0, .slice (some ⟨d, 0, none⟩) 1 c] 0) (h6.next + 1) 0 [.int .i64 0, .int .i64 0] [.int .i64 0, .int .i64 0] 0) := by
        have l6 := gg6.next
        refine Grows.put (Grows.put (Grows.new (Grows.new gg6 _ _) _ _) ⟨0, ?_⟩ (.inl ?_)) ⟨0, ?_⟩ (.inl ?_)
        · simp
        · omega
        · simp
        · omega
      have hD6' : h6.tr.get d = some (.blk [.string sMain, .int .i64 0, .int .i64 R, .slice (some ⟨bb, 0, none⟩) 1 B.c] false 4 s9) := by rw [hD6]; simp [fnCells, aB, eB]
      have lE6 : h4.next + 1 < h6.next := oE6
      have x1 : ∀ k, ¬ h4.next = h6.next + k := by intro k; omega
      have x2 : ∀ k, ¬ h4.next + 1 = h6.next + k := by intro k; omega
      have x3 : ¬ h4.next + 1 = h6.next := by omega
      have x4 : ¬ h4.next = h6.next := by omega
      have hpl := plain_law C.fix owns_ord (show (owns rs).length ≤ N by omega) hon
      rw [hout] at hpl
      rcases hpl with ⟨e1, hpos⟩ | ⟨e1, hz, hnow⟩
      · subst e1
        rw [← C.len] at hpos
        have hpos' : (0 : Int) < L.l := by omega
        simp [hO6, hE6, hD6', hb6, oO6, oE6, oD6, ob6, x1, x2, x3, x4, hpos, Nat.add_assoc]
        exact last
      · have hk : k = out.2 := by rw [C.num (by rw [hnow]), hnow]
        rw [← C.len] at hz
        obtain ⟨o1, o2⟩ := out
        simp only at e1 hk hnow
        subst e1 hk
        rw [hz, hnow] at hb6
        simp [hO6, hE6, hD6', hb6, oO6, oE6, oD6, ob6, x1, x2, x3, x4, Nat.add_assoc]
        exact last.tick
    | false =>
      simp [f0, f3, f4, f5, hwl, hd, wn1, hG2, oG2, Nat.add_assoc]
      have hon : false = true → ∃ k : Nat, (0 : Int) = k ∧ k < (owns rs).length + 0 := fun e => by cases e
      refine OpsR.cut (fun h3 => Grows Nob h h3 ∧ Grows (fun x => x = h.next) h2 h3 ∧ (∃ s, h3.tr.get (h2.next + 3) = some (.blk [.slice none 0 0, .slice (some ⟨h2.next + 2, 0, none⟩) 1 1] false 0 s)) ∧ (∃ o s, h3.tr.get (h2.next + 2) = some (.blk (fnCells sMain 0 N ⟨some ⟨h2.next + 1, 0, none⟩, 1, 1⟩) false o s)) ∧
          ∃ o s, h3.tr.get (h2.next + 1) = some (.blk (blkCells ⟨none, 0, 0⟩ ⟨w.a, rs.length, w.c⟩ false 0 ⟨none, 0, 0⟩) false o s)) ?_ ?_
      · have key : ∀ H : Heap, Grows (fun x => x = h.next) h2 H → Grows Nob h H ∧ Grows (fun x => x = h.next) h2 H := fun H g => ⟨gg2.trans' g (fun _ _ h => h) (by rintro x hx rfl; omega), g⟩
        have e1 : ∀ k, ¬ h2.next + k = h.next := by intro k; omega
        have e0 : ¬ h2.next = h.next := by omega
        have e2 : ¬ h.next = h2.next := by omega
        have e3 : ∀ k, ¬ h.next = h2.next + k := by intro k; omega
        rw [← and_assoc]
        refine ⟨key _ ?_, ⟨h2.clock + 2, ?_⟩, ⟨0, 0, ?_⟩, ⟨0, 0, ?_⟩⟩
        · refine Grows.put (Grows.new (Grows.new (Grows.put (Grows.new (Grows.put (Grows.new (Grows.refl g2.ok) _ _) ⟨0, ?_⟩ (.inl ?_)) _ _) ⟨s1, ?_⟩ (.inr ?_)) _ _) _ _) ⟨0, ?_⟩ (.inl ?_)
          · simp
          · omega
          · simp [e0, e2, e3, hG2]
          · rfl
          · simp [e1, e0, Nat.add_assoc]
          · omega
        · simp [Nat.add_assoc]
        · simp [e1, e0, e2, e3, fnCells, Nat.add_assoc]
        · simp [e1, e0, e2, e3, blkCells, Nat.add_assoc]
      rintro h3 ⟨g3, g23, ⟨sU, hU3⟩, ⟨oF, sF, hF3⟩, ⟨oB, sB, hB3⟩⟩
      have hA3 := hA2.grow g2.ok g23 (fun b hb e => by have := hA2.of hb; omega)
      have hsl3 : SliceOf encOwn h3 (SV.v ⟨w.a, rs.length, w.c⟩) (owns rs) := by have := hA3.sl; rw [SV.v_def, hwl] at this; exact this
      have m : FnOk h3 0 N ⟨some ⟨h2.next + 1, 0, none⟩, 1, 1⟩ false 0 (owns rs) := ⟨⟨none, 0, 0⟩, ⟨w.a, rs.length, w.c⟩, ⟨none, 0, 0⟩, ⟨rfl, _, false, oB, sB, rfl, hB3⟩, rfl, rfl, hsl3, owns_ord, by omega, hon, rfl, rfl⟩
      refine OpsR.call (V := fun v h' => Grows Nob h3 h' ∧ ∃ (steps : Int), v = .tuple #[.agg ⟨[.int .i64 (outM N (owns rs) false 0).1, .int .i64 (outM N (owns rs) false 0).2, .slice none 0 0, .int .i64 steps]⟩, .agg ⟨[.int .i64 0, .int .i64 0]⟩]) (by simpa using do_does g3.ok (hw.grow ok g3) m (by omega) (by omega) (fc := 1) hF3) ?_
      rintro _ h4 ⟨g4, steps, rfl⟩
      have gg4 := g3.trans g4
      have hU4 := g4.get g3.ok hU3 (fun h => h)
      have oU4 := gg4.ok.old hU4
      have lU4 : h2.next + 3 < h4.next := oU4
      have eU : ∀ k, ¬ h2.next + 3 = h4.next + k := by intro k; omega
      have eU0 : ¬ h2.next + 3 = h4.next := by omega
      generalize hout : outM N (owns rs) false 0 = out
      simp [hU4, oU4, eU, eU0, Nat.add_assoc]
      refine OpsR.cut (fun h5 => Grows Nob h4 h5 ∧ (∃ s, h5.tr.get h4.next = some (.blk [.int .i64 out.1, .int .i64 out.2, .slice none 0 0, .int .i64 steps] false 0 s)) ∧ ∃ s, h5.tr.get (h4.next + 1) = some (.blk [.int .i64 0, .int .i64 0] false 0 s)) ?_ ?_
      · refine ⟨Grows.put (Grows.put (Grows.new (Grows.new (Grows.refl gg4.ok) _ _) _ _) ⟨0, ?_⟩ (.inl ?_)) ⟨0, ?_⟩ (.inl ?_), ⟨h4.clock, ?_⟩, ⟨h4.clock + 1, ?_⟩⟩
        · simp
        · omega
        · simp
        · omega
        · simp
        · simp
      rintro h5 ⟨g5, ⟨s7, hO5⟩, s8, hE5⟩
      have gg5 := gg4.trans g5
      have g35 := g4.trans g5
      have hF5 := g35.get g3.ok hF3 (fun h => h)
      refine OpsR.call (V := fun v h' => Grows Nob h5 h' ∧ ∃ (d c s R : Nat) (B L : SV) (k : Int) (F : List (Int × Int)), v = .tuple #[.agg ⟨[.slice none 0 0, .slice (some ⟨d, 0, none⟩) 1 c]⟩, .agg #[.int .i64 0, .int .i64 0]] ∧ h5.next ≤ d ∧ h'.tr.get d = some (.blk (fnCells sMain 0 R B) false 4 s) ∧ Came N (owns rs) false 0 h5.next h' R B L k F) (by simpa using sparse_does gg5.ok (hw.grow ok gg5) (m.grow g3.ok g35) (by omega) (by omega) (fc := 1) hF5) ?_
      rintro _ h6 ⟨g6, d, c, s9, R, B, L, k, F, rfl, hd6, hD6, C⟩
      have gg6 := gg5.trans g6
      have hO6 := g6.get gg5.ok hO5 (fun h => h)
      have hE6 := g6.get gg5.ok hE5 (fun h => h)
      have oO6 := gg6.ok.old hO6
      have oE6 := gg6.ok.old hE6
      have oD6 := gg6.ok.old hD6
      obtain ⟨eB, bb, ob, sb, aB, lB, hb6⟩ := C.one
      have ob6 := gg6.ok.old hb6
      replace hb6 : h6.tr.get bb = some (.blk [.slice none 0 0, .slice L.a L.l L.c, .int .i64 1, .bool (nowM F false 0).1, .int .i64 k, .slice none 0 0] false ob sb) := hb6
      have last : Grows Nob h (put (put (newBlk (newBlk h6 [.slice none 0 0, .slice none 0 0] 0) [.int .i64 0, .int .i64 0] 0) h6.next 0 [.slice none 0 0, .slice none 0 0] [.slice none 0 0, .slice (some ⟨d, 0, none⟩) 1 c] 0) (h6.next + 1) 0 [.int .i64 0, .int .i64 0] [.int .i64 0, .int .i64 0] 0) := by
        have l6 := gg6.next
        refine Grows.put (Grows.put (Grows.new (Grows.new gg6 _ _) _ _) ⟨0, ?_⟩ (.inl ?_)) ⟨0, ?_⟩ (.inl ?_)
        · simp
        · omega
        · simp
        · omega
      have hD6' : h6.tr.get d = some (.blk [.string sMain, .int .i64 0, .int .i64 R, .slice (some ⟨bb, 0, none⟩) 1 B.c] false 4 s9) := by rw [hD6]; simp [fnCells, aB, eB]
      have lE6 : h4.next + 1 < h6.next := oE6
      have x1 : ∀ k, ¬ h4.next = h6.next + k := by intro k; omega
      have x2 : ∀ k, ¬ h4.next + 1 = h6.next + k := by intro k; omega
      have x3 : ¬ h4.next + 1 = h6.next := by omega
      have x4 : ¬ h4.next = h6.next := by omega
      have hpl := plain_law C.fix owns_ord (show (owns rs).length ≤ N by omega) hon
      rw [hout] at hpl
      rcases hpl with ⟨e1, hpos⟩ | ⟨e1, hz, hnow⟩
      · subst e1
        rw [← C.len] at hpos
        have hpos' : (0 : Int) < L.l := by omega
        simp [hO6, hE6, hD6', hb6, oO6, oE6, oD6, ob6, x1, x2, x3, x4, hpos, Nat.add_assoc]
        exact last
      · have hk : k = out.2 := by rw [C.num (by rw [hnow]), hnow]
        rw [← C.len] at hz
        obtain ⟨o1, o2⟩ := out
        simp only at e1 hk hnow
        subst e1 hk
        rw [hz, hnow] at hb6
        simp [hO6, hE6, hD6', hb6, oO6, oE6, oD6, ob6, x1, x2, x3, x4, Nat.add_assoc]
        exact last.tick
end Go.Proofs.YtehbhfobjechpaaGreatDoor
